import Derived.Test.YtddglbjhhnipgaaGreatDoorIM
import Derived.Test.YtddglbjhhnipgaaGreatDoorIW
import Derived.Test.YtddglbjhhnipgaaGreatDoorIX
namespace Go.Proofs.YtddglbjhhnipgaaGreatDoor
open Go Go.RowKit
set_option linter.unusedVariables false
set_option linter.unusedSimpArgs false
set_option maxRecDepth 100000
set_option maxHeartbeats 8000000
def kidsD (ok : Bool) (h : Hd) (ms gs : List Hd) (D : WorkD) : WorkD := match ok with | true => { D with v := { D.v with ks := h.s, kg := h.g }, km := D.km ++ ms, kg := D.kg ++ gs } | false => D
def spotsD (ok : Bool) (h : Hd) (ms gs : List Hd) (D : WorkD) : WorkD := match ok with | true => { D with v := { D.v with ss := h.s, sg := h.g }, sm := D.sm ++ ms, sg := D.sg ++ gs } | false => D
theorem makeSP7 {w : World} {l : List HProp} {W s X mk ms : Nat} {n ou nu : Int} {oi ni : Bool} {om nm : ByteArray} {D : WorkD} {tx ts : TypeId} (hs : Sat w (own X (.cells #[.int .i64 n, .bool oi, .int .i64 ou, .string om, .bool ni, .int .i64 nu, .string nm] tx (0, 0)) :: workP W s D :: own s (.cells (stoC mk ms) ts (0, 0)) :: l)) :
   w.cell? ⟨W, 0, none⟩ = some (.pointer (some ⟨s, 0, none⟩)) ∧ w.cell? ⟨s, 0, none⟩ = some (.pointer (some ⟨mk, 0, none⟩)) ∧ w.cell? ⟨s, 1, none⟩ = some (.pointer (some ⟨ms, 0, none⟩)) ∧ w.cell? ⟨X, 0, none⟩ = some (.int .i64 n) ∧ w.cell? ⟨X, 1, none⟩ = some (.bool oi) ∧ w.cell? ⟨X, 2, none⟩ = some (.int .i64 ou) ∧ w.cell? ⟨X, 3, none⟩ = some (.string om) ∧ w.cell? ⟨X, 4, none⟩ = some (.bool ni) ∧ w.cell? ⟨X, 5, none⟩ = some (.int .i64 nu) ∧ w.cell? ⟨X, 6, none⟩ = some (.string nm) := by
 obtain ⟨k1, k2, k3, k4, h⟩ := workP_E (hs.pull 1)
 exact ⟨h.cell 0, (h.pull 6).cell 0, (h.pull 6).cell 1, hs.cell 0, hs.cell 1, hs.cell 2, hs.cell 3, hs.cell 4, hs.cell 5, hs.cell 6⟩
/-- What a change comes to, with room or without. -/
def MakeA (W s mk ms : Nat) (v : VerD) (most : Int) (AK : List SlotK) (FK : List Int) (AS : List SlotS) (FS : List Int) (GK GS : Nat) (tK : HTK) (tS : HTS) (PK : KidD × Bool → Prop) (PS : Int × SpD → Prop) (j : Nat) (l : List HProp) (w w' : World) : Prop :=
 ∃ (D : WorkD) (AK2 : List SlotK) (FK2 : List Int) (AS2 : List SlotS) (FS2 : List Int), Sat w' (workP W s D :: own s (.cells (stoC mk ms) 80 (0, 0)) :: mapK mk most AK2 FK2 :: mapS ms most AS2 FS2 :: l) ∧ Kp w w' ∧
   ((∃ (TK : HTK) (TS : HTS), D.done = true ∧ D.v = { v with ks := TK.root.s, kg := TK.root.g, ss := TS.root.s, sg := TS.root.g } ∧ EdE kord most AK FK GK tK AK2 FK2 TK D.km D.kg PK j ∧ EdE cmpI most AS FS GS tS AS2 FS2 TS D.sm D.sg PS 1) ∨
    (D.done = false ∧ SameE most AK FK GK AK2 FK2 (2 * (tK.size + 2)) ∧ SameE most AS FS GS AS2 FS2 (2 * (tS.size + 2)) ∧ (roomA most AK FK < 2 * (tK.size + 2) ∨ roomA most AS FS < tS.size + 2)))
theorem work_kids_no {w : World} {l : List HProp} {W s : Nat} {D : WorkD} {h : Hd} {mv gv : Value} {ms gs : List Hd}
   (hs : Sat w (workP W s D :: rowT fH mv 56 2 ms :: rowT fH gv 56 2 gs :: l)) :
   Calls Tryz.prog 112 #[.pointer (some ⟨W, 0, none⟩), .agg #[.int .i64 h.s, .int .i64 h.g, mv, gv], .bool false] w fun e w' => e = .returned (.bool false) ∧ Sat w' (workP W s D :: l) ∧ Kp w w' := by
 obtain ⟨mo, mc, rfl⟩ := (hs.pull 1).tLen
 obtain ⟨go, gc, rfl⟩ := (hs.pull 2).tLen
 have hB := hs.alloc (.cells #[.int .i64 h.s, .int .i64 h.g, .slice mo ms.length mc, .slice go gs.length gc] 200)
 have kB := (Kp.refl w).alloc (.cells #[.int .i64 h.s, .int .i64 h.g, .slice mo ms.length mc, .slice go gs.length gc] 200)
 clear hs
 go_enter Tryz.func112, Tryz.ntmps112
 go_upto_region 1 with (fail)
 generalize World.alloc _ _ = w1 at hB kB ⊢
 generalize w.heap.size = B at hB ⊢
 go_wp2_with fail
 go_ret
 exact ⟨rfl, ((hB.tail.pull 1).tail.pull 1).tail, kB⟩
theorem work_kids_any {w : World} {l : List HProp} {W s : Nat} {D : WorkD} {h : Hd} {mv gv : Value} {ms gs : List Hd} (ok : Bool)
   (hs : Sat w (workP W s D :: rowT fH mv 56 2 ms :: rowT fH gv 56 2 gs :: l)) (z1 : D.km.length + ms.length ≤ 10000000) (z2 : D.kg.length + gs.length ≤ 10000000) :
   Calls Tryz.prog 112 #[.pointer (some ⟨W, 0, none⟩), .agg #[.int .i64 h.s, .int .i64 h.g, mv, gv], .bool ok] w fun e w' => e = .returned (.bool ok) ∧ Sat w' (workP W s (kidsD ok h ms gs D) :: l) ∧ Kp w w' := by
 cases ok with
 | true => exact work_kids hs z1 z2
 | false => exact work_kids_no hs
theorem work_spots_no {w : World} {l : List HProp} {W s : Nat} {D : WorkD} {h : Hd} {mv gv : Value} {ms gs : List Hd}
   (hs : Sat w (workP W s D :: rowT fH mv 56 2 ms :: rowT fH gv 56 2 gs :: l)) :
   Calls Tryz.prog 115 #[.pointer (some ⟨W, 0, none⟩), .agg #[.int .i64 h.s, .int .i64 h.g, mv, gv], .bool false] w fun e w' => e = .returned (.bool false) ∧ Sat w' (workP W s D :: l) ∧ Kp w w' := by
 obtain ⟨mo, mc, rfl⟩ := (hs.pull 1).tLen
 obtain ⟨go, gc, rfl⟩ := (hs.pull 2).tLen
 have hB := hs.alloc (.cells #[.int .i64 h.s, .int .i64 h.g, .slice mo ms.length mc, .slice go gs.length gc] 200)
 have kB := (Kp.refl w).alloc (.cells #[.int .i64 h.s, .int .i64 h.g, .slice mo ms.length mc, .slice go gs.length gc] 200)
 clear hs
 go_enter Tryz.func115, Tryz.ntmps115
 go_upto_region 1 with (fail)
 generalize World.alloc _ _ = w1 at hB kB ⊢
 generalize w.heap.size = B at hB ⊢
 go_wp2_with fail
 go_ret
 exact ⟨rfl, ((hB.tail.pull 1).tail.pull 1).tail, kB⟩
theorem work_spots_any {w : World} {l : List HProp} {W s : Nat} {D : WorkD} {h : Hd} {mv gv : Value} {ms gs : List Hd} (ok : Bool)
   (hs : Sat w (workP W s D :: rowT fH mv 56 2 ms :: rowT fH gv 56 2 gs :: l)) (z1 : D.sm.length + ms.length ≤ 10000000) (z2 : D.sg.length + gs.length ≤ 10000000) :
   Calls Tryz.prog 115 #[.pointer (some ⟨W, 0, none⟩), .agg #[.int .i64 h.s, .int .i64 h.g, mv, gv], .bool ok] w fun e w' => e = .returned (.bool ok) ∧ Sat w' (workP W s (spotsD ok h ms gs D) :: l) ∧ Kp w w' := by
 cases ok with
 | true => exact work_spots hs z1 z2
 | false => exact work_spots_no hs
theorem work_end_no_d {u : FrameMode} {w : World} {l : List HProp} {W s mk ms : Nat} {D : WorkD} {most : Int} {AK : List SlotK} {FK : List Int} {AS : List SlotS} {FS : List Int} {GK GS : Nat}
   (hs : Sat w (workP W s D :: own s (.cells #[.pointer (some ⟨mk, 0, none⟩), .pointer (some ⟨ms, 0, none⟩)] 80 (0, 0)) :: mapK mk most AK FK :: mapS ms most AS FS :: l)) (hd : D.done = false)
   (hWK : WfA AK FK GK) (hWS : WfA AS FS GS) (hK : ∀ h ∈ D.km, ∃ x, InA AK h x) (hS : ∀ h ∈ D.sm, ∃ x, InA AS h x) (nK : D.km.Nodup) (nS : D.sm.Nodup) (lK : AK.length ≤ 1000000) (lS : AS.length ≤ 1000000)
   (z1 : D.km.length ≤ 1000000) (z3 : D.sm.length ≤ 1000000) :
   CallsD Tryz.prog 111 #[.pointer (some ⟨W, 0, none⟩)] u w fun e u' w' => u' = u ∧ (e = .returned (.tuple #[]) ∧ ∃ (AK' : List SlotK) (FK' : List Int) (AS' : List SlotS) (FS' : List Int), FreesA most AK FK GK D.km AK' FK' ∧ FreesA most AS FS GS D.sm AS' FS' ∧ Sat w' (workP W s D :: own s (.cells #[.pointer (some ⟨mk, 0, none⟩), .pointer (some ⟨ms, 0, none⟩)] 80 (0, 0)) :: mapK mk most AK' FK' :: mapS ms most AS' FS' :: l) ∧ Kp w w') := by
 obtain ⟨k1, k2, k3, k4, h1⟩ := workP_E hs
 obtain ⟨o1, c1, rfl⟩ := (h1.pull 1).tLen
 obtain ⟨o3, c3, rfl⟩ := (h1.pull 3).tLen
 have d0 := (h1).cell 0
 have d6 := (h1).cell 6
 have d8 := (h1).cell 8
 have d10 := (h1).cell 10
 simp [workC, hd] at d0 d6 d8 d10
 have hfr := store_free (((((h1.pull 3).pull 2).pull 7).pull 7).pull 7).drew hWK hWS hK hS nK nS lK lS z1 z3
 clear hs
 go_enter_d Tryz.func111, Tryz.ntmps111
 go_upto_region 1 with (fail)
 go_region_with ((go_at_call 135; (with_reducible refine hfr.mono ?_); rintro e w2 ⟨nn, AK1, FK1, AS1, FS1, rfl, f1, f2, h2, k2'⟩))
 all_goals
   go_wp2_with fail
   refine bodyPost_ret (v := .tuple #[]) (by simp [results, Tryz.results111, go_sem]) rfl ?_
   exact ⟨rfl, AK1, FK1, AS1, FS1, f1, f2, workP_I (((((h2.pull 7).pull 5).pull 7).pull 6).pull 7), (Kp.refl w).drew.trans k2'⟩
theorem work_make_P {w : World} {l : List HProp} {W s mk ms : Nat} {n ou nu : Int} {om nm : ByteArray} {v : VerD} {most : Int} {AK : List SlotK} {FK : List Int} {AS : List SlotS} {FS : List Int} {GK GS : Nat} {tK : HTK} {tS : HTS}
   (hs : Sat w (workP W s ⟨v, [], [], [], [], false⟩ :: own s (.cells (stoC mk ms) 80 (0, 0)) :: mapK mk most AK FK :: mapS ms most AS FS :: l))
   (hvk : v.ks = tK.root.s) (hvk2 : v.kg = tK.root.g) (hvs : v.ss = tS.root.s) (hvs2 : v.sg = tS.root.g)
   (hK : VOk kord AK FK GK tK) (hS : VOk cmpI AS FS GS tS) (zK : tK.size < 40000) (zS : tS.size < 40000)
   (hm0 : 0 ≤ most) (hm1 : most ≤ 1000000) (lK : (AK.length : Int) ≤ most) (lS : (AS.length : Int) ≤ most) (gK : GK + 400000 < 1000000000000) (gS : GS + 400000 < 1000000000000) :
   Calls Tryz.prog 85 #[.pointer (some ⟨W, 0, none⟩), .agg #[.int .i64 n, .bool false, .int .i64 ou, .string om, .bool true, .int .i64 nu, .string nm]] w fun e w' => e = .returned (.tuple #[]) ∧ MakeA W s mk ms v most AK FK AS FS GK GS tK tS (fun x : KidD × Bool => x = ((⟨nu, nm, n⟩ : KidD), true) ∨ x ∈ toL tK ∧ x.1 ≠ (⟨nu, nm, n⟩ : KidD)) (fun x : Int × SpD => x = (n, (⟨true, nu, nm⟩ : SpD)) ∨ x ∈ toL tS ∧ x.1 ≠ n) 1 l w w' := by
 have ki := fun (W' : World) (l' : List HProp) (hW' : Sat W' l') => view_kid n ⟨true, nu, nm⟩ hW'
 have pk := fun (W' : World) (l' : List HProp) (A : List SlotK) (F : List Int) (T : HTK) (G : Nat) (h0 : RepO A T) (h1 : HiOk T) (h2 : WfA A F G) (z : T.size < 100000) (lA : (A.length : Int) ≤ most) (g : G + 200000 < 1000000000000) (hW' : Sat W' (mapK mk most A F :: l')) => mapK_put_any kord_ok (⟨nu, nm, n⟩ : KidD) true hW' h0 h1 h2 z hm0 hm1 lA g
 have ps := fun (W' : World) (l' : List HProp) (hW' : Sat W' (mapS ms most AS FS :: l')) => mapS_put_any cmpI_ok n (⟨true, nu, nm⟩ : SpD) hW' hS.rep hS.hi hS.wf (by omega) hm0 hm1 lS (by omega)
 unfold aggSp at ki
 dsimp only at ki pk ps
 have KI := Lib.hid ki
 have PK := Lib.hid pk
 have PS := Lib.hid ps
 clear ki pk ps
 obtain ⟨D, hD⟩ : ∃ D, D = (⟨v, [], [], [], [], false⟩ : WorkD) := ⟨_, rfl⟩
 rw [← hD] at hs
 have eK : EdS kord most AK FK GK tK AK FK GK tK D.km D.kg (fun x => x ∈ toL tK) 0 := by rw [hD]; exact EdS.init hK lK
 have eS : EdS cmpI most AS FS GS tS AS FS GS tS D.sm D.sg (fun x => x ∈ toL tS) 0 := by rw [hD]; exact EdS.init hS lS
 have HV := Lib.hid (And.intro hvk (And.intro hvk2 (And.intro hvs hvs2)))
 have HDV := Lib.hid (show D.v = v by rw [hD])
 have HDD := Lib.hid (show D.done = false by rw [hD])
 have hvk : D.v.ks = tK.root.s := by rw [HDV.out]; exact hvk
 have hvk2 : D.v.kg = tK.root.g := by rw [HDV.out]; exact hvk2
 have hvs : D.v.ss = tS.root.s := by rw [HDV.out]; exact hvs
 have hvs2 : D.v.sg = tS.root.g := by rw [HDV.out]; exact hvs2
 have HK := Lib.hid eK
 have HS := Lib.hid eS
 have HOK := Lib.hid (And.intro hK hS)
 clear eK eS hD hK hS
 have hB := hs.alloc (.cells #[.int .i64 n, .bool false, .int .i64 ou, .string om, .bool true, .int .i64 nu, .string nm] 101)
 have kB := (Kp.refl w).alloc (.cells #[.int .i64 n, .bool false, .int .i64 ou, .string om, .bool true, .int .i64 nu, .string nm] 101)
 clear hs
 go_enter_defers Tryz.func85, Tryz.ntmps85
 go_upto_region 1 with (fail)
 generalize World.alloc _ _ = w1 at hB kB ⊢
 generalize w.heap.size = X at hB ⊢
 have x1 := (hB).cell 1
 have x4 := (hB).cell 4
 simp at x1 x4
 go_upto_region 2 with (fail)
 go_quiet (fail)
 have h2 := hB.drewN nq
 have k2 := kB.drewN nq
 generalize w1.drewN nq = w2 at h2 k2 ⊢
 clear hB kB x1
 have x4 := h2.cell 4
 simp at x4
 go_upto_region 5 with (fail)
 clear x4
 have S0 := makeSP7 h2
 have HS0 := Lib.hid S0
 obtain ⟨a0, a1, a2, x0, x1, x2, x3, x4, x5, x6⟩ := S0
 obtain ⟨r2, r3, r4, r5⟩ := workRP h2
 rw [hvk] at r2
 rw [hvk2] at r3
 rw [hvs] at r4
 rw [hvs2] at r5
 go_cut [81] from 59 to 81 (fun bv wx => ∃ (ok : Bool) (rt : Hd) (A1 : List SlotK) (F1 : List Int) (T1 : HTK) (made gone : List Hd), bv = .bool (!ok) ∧ EdR most AK FK GK (putT kord (⟨nu, nm, n⟩ : KidD) true tK).1 (putT kord (⟨nu, nm, n⟩ : KidD) true tK).2 ok rt A1 F1 T1 made gone ∧ Sat wx (workP W s (kidsD ok rt made gone D) :: mapK mk most A1 F1 :: own X (.cells #[.int .i64 n, .bool false, .int .i64 ou, .string om, .bool true, .int .i64 nu, .string nm] 101 (0, 0)) :: own s (.cells (stoC mk ms) 80 (0, 0)) :: mapS ms most AS FS :: l) ∧ Kp w wx)
 case first =>
   refine wp_region_noPanic ?_
   refine wp_region_held_drew (S := (fun w' => w'.cell? ⟨W, 0, none⟩ = some (.pointer (some ⟨s, 0, none⟩)) ∧ w'.cell? ⟨s, 0, none⟩ = some (.pointer (some ⟨mk, 0, none⟩)) ∧ w'.cell? ⟨s, 1, none⟩ = some (.pointer (some ⟨ms, 0, none⟩)) ∧ w'.cell? ⟨X, 0, none⟩ = some (.int .i64 n) ∧ w'.cell? ⟨X, 1, none⟩ = some (.bool false) ∧ w'.cell? ⟨X, 2, none⟩ = some (.int .i64 ou) ∧ w'.cell? ⟨X, 3, none⟩ = some (.string om) ∧ w'.cell? ⟨X, 4, none⟩ = some (.bool true) ∧ w'.cell? ⟨X, 5, none⟩ = some (.int .i64 nu) ∧ w'.cell? ⟨X, 6, none⟩ = some (.string nm))) (by kernel_rfl) ?_ (fun hHeld => ?_)
   · exact HS0.out
   refine heldAtV (i := 0) (oi := ?oi12) ?hi12 (fun hop => ?_)
   case hi12 => first | (simp only [List.getElem?_toArray, List.getElem?_cons_succ, List.getElem?_cons_zero]; exact rfl) | simp only [List.getElem?_toArray, List.getElem?_cons_succ, List.getElem?_cons_zero]
   refine wpAnyH_take (i := 0) (v := ?_) hop (by kernel_rfl) (by kernel_rfl) (by kernel_rfl) (fun _ _ _ h => h) (Or.inl ⟨by rfl, ?hy11⟩) (by assumption) ?_
   case hy11 =>
     intro w hSw
     try dsimp only at hSw
     go_simp
     try with_reducible rfl
   clear hop
   try simp only [Act.put, List.setIfInBounds_toArray, List.set_cons_zero, List.set_cons_succ]
   refine heldAtV (i := 1) (oi := ?oi14) ?hi14 (fun hop => ?_)
   case hi14 => first | (simp only [List.getElem?_toArray, List.getElem?_cons_succ, List.getElem?_cons_zero]; exact rfl) | simp only [List.getElem?_toArray, List.getElem?_cons_succ, List.getElem?_cons_zero]
   refine wpAnyH_take (i := 1) (v := ?_) hop (by kernel_rfl) (by kernel_rfl) (by kernel_rfl) (fun _ _ _ h => h) (Or.inl ⟨by rfl, ?hy13⟩) (by assumption) ?_
   case hy13 =>
     intro w hSw
     try dsimp only at hSw
     go_simp
     try with_reducible rfl
   clear hop
   try simp only [Act.put, List.setIfInBounds_toArray, List.set_cons_zero, List.set_cons_succ]
   refine heldAtV (i := 2) (oi := ?oi16) ?hi16 (fun hop => ?_)
   case hi16 => first | (simp only [List.getElem?_toArray, List.getElem?_cons_succ, List.getElem?_cons_zero]; exact rfl) | simp only [List.getElem?_toArray, List.getElem?_cons_succ, List.getElem?_cons_zero]
   refine wpAnyH_take (i := 2) (v := ?_) hop (by kernel_rfl) (by kernel_rfl) (by kernel_rfl) (fun _ _ _ h => h) (Or.inl ⟨by rfl, ?hy15⟩) (by assumption) ?_
   case hy15 =>
     intro w hSw
     try dsimp only at hSw
     go_simp
     try with_reducible rfl
   clear hop
   try simp only [Act.put, List.setIfInBounds_toArray, List.set_cons_zero, List.set_cons_succ]
   refine heldAtV (i := 3) (oi := ?oi18) ?hi18 (fun hop => ?_)
   case hi18 => first | (simp only [List.getElem?_toArray, List.getElem?_cons_succ, List.getElem?_cons_zero]; exact rfl) | simp only [List.getElem?_toArray, List.getElem?_cons_succ, List.getElem?_cons_zero]
   refine wpAnyH_take (i := 3) (v := ?_) hop (by kernel_rfl) (by kernel_rfl) (by kernel_rfl) (fun _ _ _ h => h) (Or.inl ⟨by rfl, ?hy17⟩) (by assumption) ?_
   case hy17 =>
     intro w hSw
     try dsimp only at hSw
     go_simp
     try with_reducible rfl
   clear hop
   try simp only [Act.put, List.setIfInBounds_toArray, List.set_cons_zero, List.set_cons_succ]
   refine heldAtV (i := 4) (oi := ?oi20) ?hi20 (fun hop => ?_)
   case hi20 => first | (simp only [List.getElem?_toArray, List.getElem?_cons_succ, List.getElem?_cons_zero]; exact rfl) | simp only [List.getElem?_toArray, List.getElem?_cons_succ, List.getElem?_cons_zero]
   refine wpAnyH_take (i := 4) (v := ?_) hop (by kernel_rfl) (by kernel_rfl) (by kernel_rfl) (fun _ _ _ h => h) (Or.inl ⟨by rfl, ?hy19⟩) (by assumption) ?_
   case hy19 =>
     intro w hSw
     try dsimp only at hSw
     go_simp
     try with_reducible rfl
   clear hop
   try simp only [Act.put, List.setIfInBounds_toArray, List.set_cons_zero, List.set_cons_succ]
   refine heldAtV (i := 5) (oi := ?oi22) ?hi22 (fun hop => ?_)
   case hi22 => first | (simp only [List.getElem?_toArray, List.getElem?_cons_succ, List.getElem?_cons_zero]; exact rfl) | simp only [List.getElem?_toArray, List.getElem?_cons_succ, List.getElem?_cons_zero]
   refine wpAnyH_take (i := 5) (v := ?_) hop (by kernel_rfl) (by kernel_rfl) (by kernel_rfl) (fun _ _ _ h => h) (Or.inl ⟨by rfl, ?hy21⟩) (by assumption) ?_
   case hy21 =>
     intro w hSw
     try dsimp only at hSw
     go_simp
     try with_reducible rfl
   clear hop
   try simp only [Act.put, List.setIfInBounds_toArray, List.set_cons_zero, List.set_cons_succ]
   refine heldAtV (i := 6) (oi := ?oi24) ?hi24 (fun hop => ?_)
   case hi24 => first | (simp only [List.getElem?_toArray, List.getElem?_cons_succ, List.getElem?_cons_zero]; exact rfl) | simp only [List.getElem?_toArray, List.getElem?_cons_succ, List.getElem?_cons_zero]
   refine wpAnyH_take (i := 6) (v := ?_) hop (by kernel_rfl) (by kernel_rfl) (by kernel_rfl) (fun _ _ _ h => h) (Or.inl ⟨by rfl, ?hy23⟩) (by assumption) ?_
   case hy23 =>
     intro w hSw
     try dsimp only at hSw
     go_simp
     try with_reducible rfl
   clear hop
   try simp only [Act.put, List.setIfInBounds_toArray, List.set_cons_zero, List.set_cons_succ]
   refine heldAtV (i := 7) (oi := ?oi26) ?hi26 (fun hop => ?_)
   case hi26 => first | (simp only [List.getElem?_toArray, List.getElem?_cons_succ, List.getElem?_cons_zero]; exact rfl) | simp only [List.getElem?_toArray, List.getElem?_cons_succ, List.getElem?_cons_zero]
   refine wpAnyH_take (i := 7) (v := ?_) hop (by kernel_rfl) (by kernel_rfl) (by kernel_rfl) (fun _ _ _ h => h) (Or.inl ⟨by rfl, ?hy25⟩) (by assumption) ?_
   case hy25 =>
     intro w hSw
     try dsimp only at hSw
     go_simp
     try with_reducible rfl
   clear hop
   try simp only [Act.put, List.setIfInBounds_toArray, List.set_cons_zero, List.set_cons_succ]
   refine heldAtV (i := 8) (oi := ?oi28) ?hi28 (fun hop => ?_)
   case hi28 => first | (simp only [List.getElem?_toArray, List.getElem?_cons_succ, List.getElem?_cons_zero]; exact rfl) | simp only [List.getElem?_toArray, List.getElem?_cons_succ, List.getElem?_cons_zero]
   refine wpAnyH_take (i := 8) (v := ?_) hop (by kernel_rfl) (by kernel_rfl) (by kernel_rfl) (fun _ _ _ h => h) (Or.inl ⟨by rfl, ?hy27⟩) (by assumption) ?_
   case hy27 =>
     intro w hSw
     try dsimp only at hSw
     go_simp
     try with_reducible rfl
   clear hop
   try simp only [Act.put, List.setIfInBounds_toArray, List.set_cons_zero, List.set_cons_succ]
   refine heldAtV (i := 9) (oi := ?oi30) ?hi30 (fun hop => ?_)
   case hi30 => first | (simp only [List.getElem?_toArray, List.getElem?_cons_succ, List.getElem?_cons_zero]; exact rfl) | simp only [List.getElem?_toArray, List.getElem?_cons_succ, List.getElem?_cons_zero]
   refine wpAnyH_take (i := 9) (v := ?_) hop (by kernel_rfl) (by kernel_rfl) (by kernel_rfl) (fun _ _ _ h => h) (Or.inl ⟨by rfl, ?hy29⟩) (by assumption) ?_
   case hy29 =>
     intro w hSw
     try dsimp only at hSw
     go_simp
     try with_reducible rfl
   clear hop
   try simp only [Act.put, List.setIfInBounds_toArray, List.set_cons_zero, List.set_cons_succ]
   refine heldAtV (i := 10) (oi := ?oi32) ?hi32 (fun hop => ?_)
   case hi32 => first | (simp only [List.getElem?_toArray, List.getElem?_cons_succ, List.getElem?_cons_zero]; exact rfl) | simp only [List.getElem?_toArray, List.getElem?_cons_succ, List.getElem?_cons_zero]
   refine wpAnyH_take (i := 10) (v := ?_) hop (by kernel_rfl) (by kernel_rfl) (by kernel_rfl) (fun _ _ _ h => h) (Or.inl ⟨by rfl, ?hy31⟩) (by assumption) ?_
   case hy31 =>
     intro w hSw
     try dsimp only at hSw
     go_simp
     try with_reducible rfl
   clear hop
   try simp only [Act.put, List.setIfInBounds_toArray, List.set_cons_zero, List.set_cons_succ]
   refine heldAtV (i := 11) (oi := ?oi34) ?hi34 (fun hop => ?_)
   case hi34 => first | (simp only [List.getElem?_toArray, List.getElem?_cons_succ, List.getElem?_cons_zero]; exact rfl) | simp only [List.getElem?_toArray, List.getElem?_cons_succ, List.getElem?_cons_zero]
   refine wpAnyH_take (i := 11) (v := ?_) hop (by kernel_rfl) (by kernel_rfl) (by kernel_rfl) (fun _ _ _ h => h) (Or.inl ⟨by rfl, ?hy33⟩) (by assumption) ?_
   case hy33 =>
     intro w hSw
     try dsimp only at hSw
     go_simp
     try with_reducible rfl
   clear hop
   try simp only [Act.put, List.setIfInBounds_toArray, List.set_cons_zero, List.set_cons_succ]
   refine heldAtV (i := 13) (oi := ?oi36) ?hi36 (fun hop => ?_)
   case hi36 => first | (simp only [List.getElem?_toArray, List.getElem?_cons_succ, List.getElem?_cons_zero]; exact rfl) | simp only [List.getElem?_toArray, List.getElem?_cons_succ, List.getElem?_cons_zero]
   refine wpAnyH_take (i := 13) (v := ?_) hop (by kernel_rfl) (by kernel_rfl) (by kernel_rfl) (fun _ _ _ h => h) (Or.inl ⟨by rfl, ?hy35⟩) (by assumption) ?_
   case hy35 =>
     intro w hSw
     try dsimp only at hSw
     go_simp
     try with_reducible rfl
   clear hop
   try simp only [Act.put, List.setIfInBounds_toArray, List.set_cons_zero, List.set_cons_succ]
   refine heldAtV (i := 14) (oi := ?oi38) ?hi38 (fun hop => ?_)
   case hi38 => first | (simp only [List.getElem?_toArray, List.getElem?_cons_succ, List.getElem?_cons_zero]; exact rfl) | simp only [List.getElem?_toArray, List.getElem?_cons_succ, List.getElem?_cons_zero]
   refine wpAnyH_take (i := 14) (v := ?_) hop (by kernel_rfl) (by kernel_rfl) (by kernel_rfl) (fun _ _ _ h => h) (Or.inl ⟨by rfl, ?hy37⟩) (by assumption) ?_
   case hy37 =>
     intro w hSw
     try dsimp only at hSw
     go_simp
     try with_reducible rfl
   clear hop
   try simp only [Act.put, List.setIfInBounds_toArray, List.set_cons_zero, List.set_cons_succ]
   refine heldAtV (i := 15) (oi := ?oi40) ?hi40 (fun hop => ?_)
   case hi40 => first | (simp only [List.getElem?_toArray, List.getElem?_cons_succ, List.getElem?_cons_zero]; exact rfl) | simp only [List.getElem?_toArray, List.getElem?_cons_succ, List.getElem?_cons_zero]
   refine wpAnyH_take (i := 15) (v := ?_) hop (by kernel_rfl) (by kernel_rfl) (by kernel_rfl) (fun _ _ _ h => h) (Or.inl ⟨by rfl, ?hy39⟩) (by assumption) ?_
   case hy39 =>
     intro w hSw
     try dsimp only at hSw
     go_simp
     try with_reducible rfl
   clear hop
   try simp only [Act.put, List.setIfInBounds_toArray, List.set_cons_zero, List.set_cons_succ]
   refine heldAtV (i := 16) (oi := ?oi42) ?hi42 (fun hop => ?_)
   case hi42 => first | (simp only [List.getElem?_toArray, List.getElem?_cons_succ, List.getElem?_cons_zero]; exact rfl) | simp only [List.getElem?_toArray, List.getElem?_cons_succ, List.getElem?_cons_zero]
   refine wpAnyH_take (i := 16) (v := ?_) hop (by kernel_rfl) (by kernel_rfl) (by kernel_rfl) (fun _ _ _ h => h) (Or.inl ⟨by rfl, ?hy41⟩) (by assumption) ?_
   case hy41 =>
     intro w hSw
     try dsimp only at hSw
     go_simp
     try with_reducible rfl
   clear hop
   try simp only [Act.put, List.setIfInBounds_toArray, List.set_cons_zero, List.set_cons_succ]
   refine heldAtV (i := 12) (oi := ?oi43) ?hi43 (fun hopi => ?_)
   case hi43 => first | (simp only [List.getElem?_toArray, List.getElem?_cons_succ, List.getElem?_cons_zero]; exact rfl) | simp only [List.getElem?_toArray, List.getElem?_cons_succ, List.getElem?_cons_zero]
   refine heldAtV (i := 17) (oi := ?oi44) ?hi44 (fun hopj => ?_)
   case hi44 => first | (simp only [List.getElem?_toArray, List.getElem?_cons_succ, List.getElem?_cons_zero]; exact rfl) | simp only [List.getElem?_toArray, List.getElem?_cons_succ, List.getElem?_cons_zero]
   refine wpAnyH_ready (rs := [12, 17]) (by kernel_rfl) (by simp) ?_
   refine AllReadyH.cons hopi (fun K hK => ?_) (AllReadyH.cons hopj (fun K hK => ?_) AllReadyH.nil)
   · clear hopi hopj
     go_simp
     refine hK.out _ _ ?_ (fun hHeld => ?_)
     · exact HS0.out
     clear hK K
     try simp only [Act.put, List.setIfInBounds_toArray, List.set_cons_zero, List.set_cons_succ]
     refine heldAtV (i := 17) (oi := ?oi9) ?hi9 (fun hop => ?_)
     case hi9 => first | (simp only [List.getElem?_toArray, List.getElem?_cons_succ, List.getElem?_cons_zero]; exact rfl) | simp only [List.getElem?_toArray, List.getElem?_cons_succ, List.getElem?_cons_zero]
     refine wpAnyH_ready (rs := [17]) (by kernel_rfl) (by simp) ?_
     refine AllReadyH.cons hop (fun K hK => ?_) AllReadyH.nil
     clear hop
     go_simp
     refine (KI.out _ _ h2.drew).mono ?_
     rintro e w3 ⟨rfl, h3, k3⟩
     have SA := makeSP7 h3
     obtain ⟨t2, t3, t4, t5⟩ := workRP h3
     rw [hvk] at t2
     rw [hvk2] at t3
     refine hK.out _ _ ?_ (fun hHeld => ?_)
     · exact SA
     clear hK K
     try simp only [Act.put, List.setIfInBounds_toArray, List.set_cons_zero, List.set_cons_succ]
     refine heldAtV (i := 18) (oi := ?oi1) ?hi1 (fun hop => ?_)
     case hi1 => first | (simp only [List.getElem?_toArray, List.getElem?_cons_succ, List.getElem?_cons_zero]; exact rfl) | simp only [List.getElem?_toArray, List.getElem?_cons_succ, List.getElem?_cons_zero]
     refine wpAnyH_ready (rs := [18]) (by kernel_rfl) (by simp) ?_
     refine AllReadyH.cons hop (fun K hK => ?_) AllReadyH.nil
     clear hop
     go_simp
     refine (PK.out _ _ AK FK tK GK HK.out.wk.rep HK.out.wk.hi HK.out.wk.wf (by have := HK.out.size; omega) HK.out.len (by have := HK.out.g; have := HK.out.kmz; omega) (h3.pull 3)).mono ?_
     rintro e w4 ⟨ok, rt, mv, gv, A1, F1, T1, made, gone, rfl, hE, h4, k4⟩
     have SB := makeSP7 (((h4.pull 5).pull 5).pull 5)
     refine hK.out _ _ ?_ (fun hHeld => ?_)
     · exact SB
     clear hK K
     try simp only [Act.put, List.setIfInBounds_toArray, List.set_cons_zero, List.set_cons_succ]
     refine heldAtV (i := 19) (oi := ?oi3) ?hi3 (fun hop => ?_)
     case hi3 => first | (simp only [List.getElem?_toArray, List.getElem?_cons_succ, List.getElem?_cons_zero]; exact rfl) | simp only [List.getElem?_toArray, List.getElem?_cons_succ, List.getElem?_cons_zero]
     refine wpAnyH_take (i := 19) (v := ?_) hop (by kernel_rfl) (by kernel_rfl) (by kernel_rfl) (fun _ _ _ h => h) (Or.inl ⟨by rfl, ?hy2⟩) (by assumption) ?_
     case hy2 =>
       intro w hSw
       try dsimp only at hSw
       go_simp
       try with_reducible rfl
     clear hop
     try simp only [Act.put, List.setIfInBounds_toArray, List.set_cons_zero, List.set_cons_succ]
     refine heldAtV (i := 20) (oi := ?oi5) ?hi5 (fun hop => ?_)
     case hi5 => first | (simp only [List.getElem?_toArray, List.getElem?_cons_succ, List.getElem?_cons_zero]; exact rfl) | simp only [List.getElem?_toArray, List.getElem?_cons_succ, List.getElem?_cons_zero]
     refine wpAnyH_take (i := 20) (v := ?_) hop (by kernel_rfl) (by kernel_rfl) (by kernel_rfl) (fun _ _ _ h => h) (Or.inl ⟨by rfl, ?hy4⟩) (by assumption) ?_
     case hy4 =>
       intro w hSw
       try dsimp only at hSw
       go_simp
       try with_reducible rfl
     clear hop
     try simp only [Act.put, List.setIfInBounds_toArray, List.set_cons_zero, List.set_cons_succ]
     refine heldAtV (i := 21) (oi := ?oi6) ?hi6 (fun hop => ?_)
     case hi6 => first | (simp only [List.getElem?_toArray, List.getElem?_cons_succ, List.getElem?_cons_zero]; exact rfl) | simp only [List.getElem?_toArray, List.getElem?_cons_succ, List.getElem?_cons_zero]
     refine wpAnyH_ready (rs := [21]) (by kernel_rfl) (by simp) ?_
     refine AllReadyH.cons hop (fun K hK => ?_) AllReadyH.nil
     clear hop
     go_simp
     refine (work_kids_any ok (h4.pull 4) (by have q1 := edr_small hE; have q2 := HK.out.kmz; have q3 := HK.out.size; have q4 := putT_size kord (⟨nu, nm, n⟩ : KidD) true tK; omega) (by have q1 := edr_small hE; have q2 := HK.out.kgz; have q3 := HK.out.size; have q4 := putT_gone kord (⟨nu, nm, n⟩ : KidD) true tK; omega)).mono ?_
     rintro e w5 ⟨rfl, h5, k5⟩
     have SC := makeSP7 (((h5.pull 3).pull 1).pull 3)
     refine hK.out _ _ ?_ (fun hHeld => ?_)
     · exact SC
     clear hK K
     try simp only [Act.put, List.setIfInBounds_toArray, List.set_cons_zero, List.set_cons_succ]
     refine heldAtV (i := 22) (oi := ?oi8) ?hi8 (fun hop => ?_)
     case hi8 => first | (simp only [List.getElem?_toArray, List.getElem?_cons_succ, List.getElem?_cons_zero]; exact rfl) | simp only [List.getElem?_toArray, List.getElem?_cons_succ, List.getElem?_cons_zero]
     refine wpAnyH_take (i := 22) (v := ?_) hop (by kernel_rfl) (by kernel_rfl) (by kernel_rfl) (fun _ _ _ h => h) (Or.inl ⟨by rfl, ?hy7⟩) (by assumption) ?_
     case hy7 =>
       intro w hSw
       try dsimp only at hSw
       go_simp
       try with_reducible rfl
     clear hop
     try simp only [Act.put, List.setIfInBounds_toArray, List.set_cons_zero, List.set_cons_succ]
     refine wpAnyH_done (by kernel_rfl) (NoPanic.normal ?_) _
     go_wp2_with fail
     go_meet
     case rel => exact ⟨ok, rt, A1, F1, T1, made, gone, rfl, hE, h5, ((k2.drew.trans k3).trans k4).trans k5⟩
   · clear hopi hopj
     go_simp
     refine (KI.out _ _ h2.drew).mono ?_
     rintro e w3 ⟨rfl, h3, k3⟩
     have SA := makeSP7 h3
     obtain ⟨t2, t3, t4, t5⟩ := workRP h3
     rw [hvk] at t2
     rw [hvk2] at t3
     refine hK.out _ _ ?_ (fun hHeld => ?_)
     · exact SA
     clear hK K
     try simp only [Act.put, List.setIfInBounds_toArray, List.set_cons_zero, List.set_cons_succ]
     refine heldAtV (i := 12) (oi := ?oi10) ?hi10 (fun hop => ?_)
     case hi10 => first | (simp only [List.getElem?_toArray, List.getElem?_cons_succ, List.getElem?_cons_zero]; exact rfl) | simp only [List.getElem?_toArray, List.getElem?_cons_succ, List.getElem?_cons_zero]
     refine wpAnyH_ready (rs := [12]) (by kernel_rfl) (by simp) ?_
     refine AllReadyH.cons hop (fun K hK => ?_) AllReadyH.nil
     clear hop
     go_simp
     refine hK.out _ _ ?_ (fun hHeld => ?_)
     · exact SA
     clear hK K
     try simp only [Act.put, List.setIfInBounds_toArray, List.set_cons_zero, List.set_cons_succ]
     refine heldAtV (i := 18) (oi := ?oi1) ?hi1 (fun hop => ?_)
     case hi1 => first | (simp only [List.getElem?_toArray, List.getElem?_cons_succ, List.getElem?_cons_zero]; exact rfl) | simp only [List.getElem?_toArray, List.getElem?_cons_succ, List.getElem?_cons_zero]
     refine wpAnyH_ready (rs := [18]) (by kernel_rfl) (by simp) ?_
     refine AllReadyH.cons hop (fun K hK => ?_) AllReadyH.nil
     clear hop
     go_simp
     refine (PK.out _ _ AK FK tK GK HK.out.wk.rep HK.out.wk.hi HK.out.wk.wf (by have := HK.out.size; omega) HK.out.len (by have := HK.out.g; have := HK.out.kmz; omega) (h3.pull 3)).mono ?_
     rintro e w4 ⟨ok, rt, mv, gv, A1, F1, T1, made, gone, rfl, hE, h4, k4⟩
     have SB := makeSP7 (((h4.pull 5).pull 5).pull 5)
     refine hK.out _ _ ?_ (fun hHeld => ?_)
     · exact SB
     clear hK K
     try simp only [Act.put, List.setIfInBounds_toArray, List.set_cons_zero, List.set_cons_succ]
     refine heldAtV (i := 19) (oi := ?oi3) ?hi3 (fun hop => ?_)
     case hi3 => first | (simp only [List.getElem?_toArray, List.getElem?_cons_succ, List.getElem?_cons_zero]; exact rfl) | simp only [List.getElem?_toArray, List.getElem?_cons_succ, List.getElem?_cons_zero]
     refine wpAnyH_take (i := 19) (v := ?_) hop (by kernel_rfl) (by kernel_rfl) (by kernel_rfl) (fun _ _ _ h => h) (Or.inl ⟨by rfl, ?hy2⟩) (by assumption) ?_
     case hy2 =>
       intro w hSw
       try dsimp only at hSw
       go_simp
       try with_reducible rfl
     clear hop
     try simp only [Act.put, List.setIfInBounds_toArray, List.set_cons_zero, List.set_cons_succ]
     refine heldAtV (i := 20) (oi := ?oi5) ?hi5 (fun hop => ?_)
     case hi5 => first | (simp only [List.getElem?_toArray, List.getElem?_cons_succ, List.getElem?_cons_zero]; exact rfl) | simp only [List.getElem?_toArray, List.getElem?_cons_succ, List.getElem?_cons_zero]
     refine wpAnyH_take (i := 20) (v := ?_) hop (by kernel_rfl) (by kernel_rfl) (by kernel_rfl) (fun _ _ _ h => h) (Or.inl ⟨by rfl, ?hy4⟩) (by assumption) ?_
     case hy4 =>
       intro w hSw
       try dsimp only at hSw
       go_simp
       try with_reducible rfl
     clear hop
     try simp only [Act.put, List.setIfInBounds_toArray, List.set_cons_zero, List.set_cons_succ]
     refine heldAtV (i := 21) (oi := ?oi6) ?hi6 (fun hop => ?_)
     case hi6 => first | (simp only [List.getElem?_toArray, List.getElem?_cons_succ, List.getElem?_cons_zero]; exact rfl) | simp only [List.getElem?_toArray, List.getElem?_cons_succ, List.getElem?_cons_zero]
     refine wpAnyH_ready (rs := [21]) (by kernel_rfl) (by simp) ?_
     refine AllReadyH.cons hop (fun K hK => ?_) AllReadyH.nil
     clear hop
     go_simp
     refine (work_kids_any ok (h4.pull 4) (by have q1 := edr_small hE; have q2 := HK.out.kmz; have q3 := HK.out.size; have q4 := putT_size kord (⟨nu, nm, n⟩ : KidD) true tK; omega) (by have q1 := edr_small hE; have q2 := HK.out.kgz; have q3 := HK.out.size; have q4 := putT_gone kord (⟨nu, nm, n⟩ : KidD) true tK; omega)).mono ?_
     rintro e w5 ⟨rfl, h5, k5⟩
     have SC := makeSP7 (((h5.pull 3).pull 1).pull 3)
     refine hK.out _ _ ?_ (fun hHeld => ?_)
     · exact SC
     clear hK K
     try simp only [Act.put, List.setIfInBounds_toArray, List.set_cons_zero, List.set_cons_succ]
     refine heldAtV (i := 22) (oi := ?oi8) ?hi8 (fun hop => ?_)
     case hi8 => first | (simp only [List.getElem?_toArray, List.getElem?_cons_succ, List.getElem?_cons_zero]; exact rfl) | simp only [List.getElem?_toArray, List.getElem?_cons_succ, List.getElem?_cons_zero]
     refine wpAnyH_take (i := 22) (v := ?_) hop (by kernel_rfl) (by kernel_rfl) (by kernel_rfl) (fun _ _ _ h => h) (Or.inl ⟨by rfl, ?hy7⟩) (by assumption) ?_
     case hy7 =>
       intro w hSw
       try dsimp only at hSw
       go_simp
       try with_reducible rfl
     clear hop
     try simp only [Act.put, List.setIfInBounds_toArray, List.set_cons_zero, List.set_cons_succ]
     refine wpAnyH_done (by kernel_rfl) (NoPanic.normal ?_) _
     go_wp2_with fail
     go_meet
     case rel => exact ⟨ok, rt, A1, F1, T1, made, gone, rfl, hE, h5, ((k2.drew.trans k3).trans k4).trans k5⟩
 case rest =>
   obtain ⟨ok, rt, A1, F1, T1, made, gone, rfl, hE, h6, k6⟩ := hcut
   clear h2 k2 HS0 a0 a1 a2 x0 x1 x2 x3 x4 x5 x6 r2 r3 r4 r5
   cases ok with
   | false =>
     rcases hE with ⟨hq, _⟩ | ⟨_, hlt, rfl, rfl, rfl, rfl, rfl, rfl⟩
     · cases hq
     have h7 := ((h6.pull 2).tail.pull 2).swap
     have hen := work_end_no_d (u := .returning) (D := D) h7 HDD.out HK.out.wk.wf HS.out.wk.wf HK.out.wk.got HS.out.wk.got HK.out.wk.nodup HS.out.wk.nodup (by have := HK.out.len; omega) (by have := HS.out.len; omega) (by have := HK.out.kmz; omega) (by have := HS.out.kmz; omega)
     have HEN := Lib.hid hen
     have HSH := Lib.hid (show roomA most AK FK < 2 * (tK.size + 2) ∨ roomA most AS FS < tS.size + 2 from .inl (by have q1 := freshT_size (putT kord (⟨nu, nm, n⟩ : KidD) true tK).1; have q2 := putT_size kord (⟨nu, nm, n⟩ : KidD) true tK; omega))
     clear hen h7 hlt
     go_wp2_with fail
     refine leaves_cons (f := 111) (args := #[.pointer (some ⟨W, 0, none⟩)]) (by simp) (by simp [go_sem]) ?_
     refine HEN.out.mono ?_
     rintro e u' w'' ⟨rfl, rfl, AK2, FK2, AS2, FS2, f1, f2, h13, k13⟩
     exact ⟨.tuple #[], results_none rfl _ _ _, rfl, D, AK2, FK2, AS2, FS2, h13, k6.trans k13, .inr ⟨HDD.out, HK.out.undone f1 (by omega), HS.out.undone f2 (by omega), HSH.out⟩⟩
   | true =>
     obtain ⟨hrt, hK1⟩ := HK.out.put kord_ord (by decide) hE
     obtain ⟨D1, hD1⟩ : ∃ D1, D1 = kidsD true rt made gone D := ⟨_, rfl⟩
     rw [← hD1] at h6
     have e1 : D1.v = { D.v with ks := rt.s, kg := rt.g } := by rw [hD1]; rfl
     have e2 : D1.km = D.km ++ made := by rw [hD1]; rfl
     have e3 : D1.kg = D.kg ++ gone := by rw [hD1]; rfl
     have e4 : D1.sm = D.sm := by rw [hD1]; rfl
     have e5 : D1.sg = D.sg := by rw [hD1]; rfl
     have e6 : D1.done = false := by rw [hD1]; exact HDD.out
     rw [← e2, ← e3] at hK1
     have hS1 := HS.out
     rw [← e4, ← e5] at hS1
     have HDV1 := Lib.hid (show D1.v = { v with ks := T1.root.s, kg := T1.root.g } by rw [e1, hrt, HDV.out])
     have hvk' : D1.v.ks = T1.root.s := by rw [HDV1.out]
     have hvk2' : D1.v.kg = T1.root.g := by rw [HDV1.out]
     have hvs' : D1.v.ss = tS.root.s := by rw [e1]; exact hvs
     have hvs2' : D1.v.sg = tS.root.g := by rw [e1]; exact hvs2
     have HK1 := Lib.hid hK1
     have HS1 := Lib.hid hS1
     have HDD1 := Lib.hid e6
     have h7 := ((h6.pull 2).pull 3).push 2
     clear h6 hE hrt hK1 hD1 e1 e2 e3 e4 e5 e6 hS1 hvk hvk2 hvs hvs2
     have hvk := hvk'
     have hvk2 := hvk2'
     have hvs := hvs'
     have hvs2 := hvs2'
     clear hvk' hvk2' hvs' hvs2'
     go_upto_region 6 with (fail)
     have S0 := makeSP7 h7
     have HS0 := Lib.hid S0
     obtain ⟨a0, a1, a2, x0, x1, x2, x3, x4, x5, x6⟩ := S0
     obtain ⟨r2, r3, r4, r5⟩ := workRP h7
     rw [hvk] at r2
     rw [hvk2] at r3
     rw [hvs] at r4
     rw [hvs2] at r5
     refine wp_region_noPanic ?_
     refine wp_region_held_drew (S := (fun w' => w'.cell? ⟨W, 0, none⟩ = some (.pointer (some ⟨s, 0, none⟩)) ∧ w'.cell? ⟨s, 0, none⟩ = some (.pointer (some ⟨mk, 0, none⟩)) ∧ w'.cell? ⟨s, 1, none⟩ = some (.pointer (some ⟨ms, 0, none⟩)) ∧ w'.cell? ⟨X, 0, none⟩ = some (.int .i64 n) ∧ w'.cell? ⟨X, 1, none⟩ = some (.bool false) ∧ w'.cell? ⟨X, 2, none⟩ = some (.int .i64 ou) ∧ w'.cell? ⟨X, 3, none⟩ = some (.string om) ∧ w'.cell? ⟨X, 4, none⟩ = some (.bool true) ∧ w'.cell? ⟨X, 5, none⟩ = some (.int .i64 nu) ∧ w'.cell? ⟨X, 6, none⟩ = some (.string nm))) (by kernel_rfl) ?_ (fun hHeld => ?_)
     · exact HS0.out
     refine heldAtV (i := 0) (oi := ?oi46) ?hi46 (fun hop => ?_)
     case hi46 => first | (simp only [List.getElem?_toArray, List.getElem?_cons_succ, List.getElem?_cons_zero]; exact rfl) | simp only [List.getElem?_toArray, List.getElem?_cons_succ, List.getElem?_cons_zero]
     refine wpAnyH_take (i := 0) (v := ?_) hop (by kernel_rfl) (by kernel_rfl) (by kernel_rfl) (fun _ _ _ h => h) (Or.inl ⟨by rfl, ?hy45⟩) (by assumption) ?_
     case hy45 =>
       intro w hSw
       try dsimp only at hSw
       go_simp
       try with_reducible rfl
     clear hop
     try simp only [Act.put, List.setIfInBounds_toArray, List.set_cons_zero, List.set_cons_succ]
     refine heldAtV (i := 1) (oi := ?oi48) ?hi48 (fun hop => ?_)
     case hi48 => first | (simp only [List.getElem?_toArray, List.getElem?_cons_succ, List.getElem?_cons_zero]; exact rfl) | simp only [List.getElem?_toArray, List.getElem?_cons_succ, List.getElem?_cons_zero]
     refine wpAnyH_take (i := 1) (v := ?_) hop (by kernel_rfl) (by kernel_rfl) (by kernel_rfl) (fun _ _ _ h => h) (Or.inl ⟨by rfl, ?hy47⟩) (by assumption) ?_
     case hy47 =>
       intro w hSw
       try dsimp only at hSw
       go_simp
       try with_reducible rfl
     clear hop
     try simp only [Act.put, List.setIfInBounds_toArray, List.set_cons_zero, List.set_cons_succ]
     refine heldAtV (i := 2) (oi := ?oi50) ?hi50 (fun hop => ?_)
     case hi50 => first | (simp only [List.getElem?_toArray, List.getElem?_cons_succ, List.getElem?_cons_zero]; exact rfl) | simp only [List.getElem?_toArray, List.getElem?_cons_succ, List.getElem?_cons_zero]
     refine wpAnyH_take (i := 2) (v := ?_) hop (by kernel_rfl) (by kernel_rfl) (by kernel_rfl) (fun _ _ _ h => h) (Or.inl ⟨by rfl, ?hy49⟩) (by assumption) ?_
     case hy49 =>
       intro w hSw
       try dsimp only at hSw
       go_simp
       try with_reducible rfl
     clear hop
     try simp only [Act.put, List.setIfInBounds_toArray, List.set_cons_zero, List.set_cons_succ]
     refine heldAtV (i := 3) (oi := ?oi52) ?hi52 (fun hop => ?_)
     case hi52 => first | (simp only [List.getElem?_toArray, List.getElem?_cons_succ, List.getElem?_cons_zero]; exact rfl) | simp only [List.getElem?_toArray, List.getElem?_cons_succ, List.getElem?_cons_zero]
     refine wpAnyH_take (i := 3) (v := ?_) hop (by kernel_rfl) (by kernel_rfl) (by kernel_rfl) (fun _ _ _ h => h) (Or.inl ⟨by rfl, ?hy51⟩) (by assumption) ?_
     case hy51 =>
       intro w hSw
       try dsimp only at hSw
       go_simp
       try with_reducible rfl
     clear hop
     try simp only [Act.put, List.setIfInBounds_toArray, List.set_cons_zero, List.set_cons_succ]
     refine heldAtV (i := 4) (oi := ?oi54) ?hi54 (fun hop => ?_)
     case hi54 => first | (simp only [List.getElem?_toArray, List.getElem?_cons_succ, List.getElem?_cons_zero]; exact rfl) | simp only [List.getElem?_toArray, List.getElem?_cons_succ, List.getElem?_cons_zero]
     refine wpAnyH_take (i := 4) (v := ?_) hop (by kernel_rfl) (by kernel_rfl) (by kernel_rfl) (fun _ _ _ h => h) (Or.inl ⟨by rfl, ?hy53⟩) (by assumption) ?_
     case hy53 =>
       intro w hSw
       try dsimp only at hSw
       go_simp
       try with_reducible rfl
     clear hop
     try simp only [Act.put, List.setIfInBounds_toArray, List.set_cons_zero, List.set_cons_succ]
     refine heldAtV (i := 5) (oi := ?oi56) ?hi56 (fun hop => ?_)
     case hi56 => first | (simp only [List.getElem?_toArray, List.getElem?_cons_succ, List.getElem?_cons_zero]; exact rfl) | simp only [List.getElem?_toArray, List.getElem?_cons_succ, List.getElem?_cons_zero]
     refine wpAnyH_take (i := 5) (v := ?_) hop (by kernel_rfl) (by kernel_rfl) (by kernel_rfl) (fun _ _ _ h => h) (Or.inl ⟨by rfl, ?hy55⟩) (by assumption) ?_
     case hy55 =>
       intro w hSw
       try dsimp only at hSw
       go_simp
       try with_reducible rfl
     clear hop
     try simp only [Act.put, List.setIfInBounds_toArray, List.set_cons_zero, List.set_cons_succ]
     refine heldAtV (i := 6) (oi := ?oi58) ?hi58 (fun hop => ?_)
     case hi58 => first | (simp only [List.getElem?_toArray, List.getElem?_cons_succ, List.getElem?_cons_zero]; exact rfl) | simp only [List.getElem?_toArray, List.getElem?_cons_succ, List.getElem?_cons_zero]
     refine wpAnyH_take (i := 6) (v := ?_) hop (by kernel_rfl) (by kernel_rfl) (by kernel_rfl) (fun _ _ _ h => h) (Or.inl ⟨by rfl, ?hy57⟩) (by assumption) ?_
     case hy57 =>
       intro w hSw
       try dsimp only at hSw
       go_simp
       try with_reducible rfl
     clear hop
     try simp only [Act.put, List.setIfInBounds_toArray, List.set_cons_zero, List.set_cons_succ]
     refine heldAtV (i := 7) (oi := ?oi60) ?hi60 (fun hop => ?_)
     case hi60 => first | (simp only [List.getElem?_toArray, List.getElem?_cons_succ, List.getElem?_cons_zero]; exact rfl) | simp only [List.getElem?_toArray, List.getElem?_cons_succ, List.getElem?_cons_zero]
     refine wpAnyH_take (i := 7) (v := ?_) hop (by kernel_rfl) (by kernel_rfl) (by kernel_rfl) (fun _ _ _ h => h) (Or.inl ⟨by rfl, ?hy59⟩) (by assumption) ?_
     case hy59 =>
       intro w hSw
       try dsimp only at hSw
       go_simp
       try with_reducible rfl
     clear hop
     try simp only [Act.put, List.setIfInBounds_toArray, List.set_cons_zero, List.set_cons_succ]
     refine heldAtV (i := 8) (oi := ?oi62) ?hi62 (fun hop => ?_)
     case hi62 => first | (simp only [List.getElem?_toArray, List.getElem?_cons_succ, List.getElem?_cons_zero]; exact rfl) | simp only [List.getElem?_toArray, List.getElem?_cons_succ, List.getElem?_cons_zero]
     refine wpAnyH_take (i := 8) (v := ?_) hop (by kernel_rfl) (by kernel_rfl) (by kernel_rfl) (fun _ _ _ h => h) (Or.inl ⟨by rfl, ?hy61⟩) (by assumption) ?_
     case hy61 =>
       intro w hSw
       try dsimp only at hSw
       go_simp
       try with_reducible rfl
     clear hop
     try simp only [Act.put, List.setIfInBounds_toArray, List.set_cons_zero, List.set_cons_succ]
     refine heldAtV (i := 9) (oi := ?oi64) ?hi64 (fun hop => ?_)
     case hi64 => first | (simp only [List.getElem?_toArray, List.getElem?_cons_succ, List.getElem?_cons_zero]; exact rfl) | simp only [List.getElem?_toArray, List.getElem?_cons_succ, List.getElem?_cons_zero]
     refine wpAnyH_take (i := 9) (v := ?_) hop (by kernel_rfl) (by kernel_rfl) (by kernel_rfl) (fun _ _ _ h => h) (Or.inl ⟨by rfl, ?hy63⟩) (by assumption) ?_
     case hy63 =>
       intro w hSw
       try dsimp only at hSw
       go_simp
       try with_reducible rfl
     clear hop
     try simp only [Act.put, List.setIfInBounds_toArray, List.set_cons_zero, List.set_cons_succ]
     refine heldAtV (i := 10) (oi := ?oi66) ?hi66 (fun hop => ?_)
     case hi66 => first | (simp only [List.getElem?_toArray, List.getElem?_cons_succ, List.getElem?_cons_zero]; exact rfl) | simp only [List.getElem?_toArray, List.getElem?_cons_succ, List.getElem?_cons_zero]
     refine wpAnyH_take (i := 10) (v := ?_) hop (by kernel_rfl) (by kernel_rfl) (by kernel_rfl) (fun _ _ _ h => h) (Or.inl ⟨by rfl, ?hy65⟩) (by assumption) ?_
     case hy65 =>
       intro w hSw
       try dsimp only at hSw
       go_simp
       try with_reducible rfl
     clear hop
     try simp only [Act.put, List.setIfInBounds_toArray, List.set_cons_zero, List.set_cons_succ]
     refine heldAtV (i := 11) (oi := ?oi68) ?hi68 (fun hop => ?_)
     case hi68 => first | (simp only [List.getElem?_toArray, List.getElem?_cons_succ, List.getElem?_cons_zero]; exact rfl) | simp only [List.getElem?_toArray, List.getElem?_cons_succ, List.getElem?_cons_zero]
     refine wpAnyH_take (i := 11) (v := ?_) hop (by kernel_rfl) (by kernel_rfl) (by kernel_rfl) (fun _ _ _ h => h) (Or.inl ⟨by rfl, ?hy67⟩) (by assumption) ?_
     case hy67 =>
       intro w hSw
       try dsimp only at hSw
       go_simp
       try with_reducible rfl
     clear hop
     try simp only [Act.put, List.setIfInBounds_toArray, List.set_cons_zero, List.set_cons_succ]
     refine heldAtV (i := 12) (oi := ?oi70) ?hi70 (fun hop => ?_)
     case hi70 => first | (simp only [List.getElem?_toArray, List.getElem?_cons_succ, List.getElem?_cons_zero]; exact rfl) | simp only [List.getElem?_toArray, List.getElem?_cons_succ, List.getElem?_cons_zero]
     refine wpAnyH_take (i := 12) (v := ?_) hop (by kernel_rfl) (by kernel_rfl) (by kernel_rfl) (fun _ _ _ h => h) (Or.inl ⟨by rfl, ?hy69⟩) (by assumption) ?_
     case hy69 =>
       intro w hSw
       try dsimp only at hSw
       go_simp
       try with_reducible rfl
     clear hop
     try simp only [Act.put, List.setIfInBounds_toArray, List.set_cons_zero, List.set_cons_succ]
     refine heldAtV (i := 14) (oi := ?oi72) ?hi72 (fun hop => ?_)
     case hi72 => first | (simp only [List.getElem?_toArray, List.getElem?_cons_succ, List.getElem?_cons_zero]; exact rfl) | simp only [List.getElem?_toArray, List.getElem?_cons_succ, List.getElem?_cons_zero]
     refine wpAnyH_take (i := 14) (v := ?_) hop (by kernel_rfl) (by kernel_rfl) (by kernel_rfl) (fun _ _ _ h => h) (Or.inl ⟨by rfl, ?hy71⟩) (by assumption) ?_
     case hy71 =>
       intro w hSw
       try dsimp only at hSw
       go_simp
       try with_reducible rfl
     clear hop
     try simp only [Act.put, List.setIfInBounds_toArray, List.set_cons_zero, List.set_cons_succ]
     refine heldAtV (i := 15) (oi := ?oi74) ?hi74 (fun hop => ?_)
     case hi74 => first | (simp only [List.getElem?_toArray, List.getElem?_cons_succ, List.getElem?_cons_zero]; exact rfl) | simp only [List.getElem?_toArray, List.getElem?_cons_succ, List.getElem?_cons_zero]
     refine wpAnyH_take (i := 15) (v := ?_) hop (by kernel_rfl) (by kernel_rfl) (by kernel_rfl) (fun _ _ _ h => h) (Or.inl ⟨by rfl, ?hy73⟩) (by assumption) ?_
     case hy73 =>
       intro w hSw
       try dsimp only at hSw
       go_simp
       try with_reducible rfl
     clear hop
     try simp only [Act.put, List.setIfInBounds_toArray, List.set_cons_zero, List.set_cons_succ]
     refine heldAtV (i := 16) (oi := ?oi76) ?hi76 (fun hop => ?_)
     case hi76 => first | (simp only [List.getElem?_toArray, List.getElem?_cons_succ, List.getElem?_cons_zero]; exact rfl) | simp only [List.getElem?_toArray, List.getElem?_cons_succ, List.getElem?_cons_zero]
     refine wpAnyH_take (i := 16) (v := ?_) hop (by kernel_rfl) (by kernel_rfl) (by kernel_rfl) (fun _ _ _ h => h) (Or.inl ⟨by rfl, ?hy75⟩) (by assumption) ?_
     case hy75 =>
       intro w hSw
       try dsimp only at hSw
       go_simp
       try with_reducible rfl
     clear hop
     try simp only [Act.put, List.setIfInBounds_toArray, List.set_cons_zero, List.set_cons_succ]
     refine heldAtV (i := 17) (oi := ?oi78) ?hi78 (fun hop => ?_)
     case hi78 => first | (simp only [List.getElem?_toArray, List.getElem?_cons_succ, List.getElem?_cons_zero]; exact rfl) | simp only [List.getElem?_toArray, List.getElem?_cons_succ, List.getElem?_cons_zero]
     refine wpAnyH_take (i := 17) (v := ?_) hop (by kernel_rfl) (by kernel_rfl) (by kernel_rfl) (fun _ _ _ h => h) (Or.inl ⟨by rfl, ?hy77⟩) (by assumption) ?_
     case hy77 =>
       intro w hSw
       try dsimp only at hSw
       go_simp
       try with_reducible rfl
     clear hop
     try simp only [Act.put, List.setIfInBounds_toArray, List.set_cons_zero, List.set_cons_succ]
     refine heldAtV (i := 13) (oi := ?oi79) ?hi79 (fun hop => ?_)
     case hi79 => first | (simp only [List.getElem?_toArray, List.getElem?_cons_succ, List.getElem?_cons_zero]; exact rfl) | simp only [List.getElem?_toArray, List.getElem?_cons_succ, List.getElem?_cons_zero]
     refine wpAnyH_ready (rs := [13]) (by kernel_rfl) (by simp) ?_
     refine AllReadyH.cons hop (fun K hK => ?_) AllReadyH.nil
     clear hop
     go_simp
     refine hK.out _ _ ?_ (fun hHeld => ?_)
     · exact HS0.out
     clear hK K
     try simp only [Act.put, List.setIfInBounds_toArray, List.set_cons_zero, List.set_cons_succ]
     refine heldAtV (i := 18) (oi := ?oi80) ?hi80 (fun hop => ?_)
     case hi80 => first | (simp only [List.getElem?_toArray, List.getElem?_cons_succ, List.getElem?_cons_zero]; exact rfl) | simp only [List.getElem?_toArray, List.getElem?_cons_succ, List.getElem?_cons_zero]
     refine wpAnyH_ready (rs := [18]) (by kernel_rfl) (by simp) ?_
     refine AllReadyH.cons hop (fun K hK => ?_) AllReadyH.nil
     clear hop
     go_simp
     refine (PS.out _ _ (h7.pull 4).drew).mono ?_
     rintro e w4 ⟨ok, rt, mv, gv, A2, F2, T2, made, gone, rfl, hE, h8, k8⟩
     have SB := makeSP7 (((h8.pull 5).pull 5).pull 5)
     refine hK.out _ _ ?_ (fun hHeld => ?_)
     · exact SB
     clear hK K
     try simp only [Act.put, List.setIfInBounds_toArray, List.set_cons_zero, List.set_cons_succ]
     refine heldAtV (i := 19) (oi := ?oi82) ?hi82 (fun hop => ?_)
     case hi82 => first | (simp only [List.getElem?_toArray, List.getElem?_cons_succ, List.getElem?_cons_zero]; exact rfl) | simp only [List.getElem?_toArray, List.getElem?_cons_succ, List.getElem?_cons_zero]
     refine wpAnyH_take (i := 19) (v := ?_) hop (by kernel_rfl) (by kernel_rfl) (by kernel_rfl) (fun _ _ _ h => h) (Or.inl ⟨by rfl, ?hy81⟩) (by assumption) ?_
     case hy81 =>
       intro w hSw
       try dsimp only at hSw
       go_simp
       try with_reducible rfl
     clear hop
     try simp only [Act.put, List.setIfInBounds_toArray, List.set_cons_zero, List.set_cons_succ]
     refine heldAtV (i := 20) (oi := ?oi84) ?hi84 (fun hop => ?_)
     case hi84 => first | (simp only [List.getElem?_toArray, List.getElem?_cons_succ, List.getElem?_cons_zero]; exact rfl) | simp only [List.getElem?_toArray, List.getElem?_cons_succ, List.getElem?_cons_zero]
     refine wpAnyH_take (i := 20) (v := ?_) hop (by kernel_rfl) (by kernel_rfl) (by kernel_rfl) (fun _ _ _ h => h) (Or.inl ⟨by rfl, ?hy83⟩) (by assumption) ?_
     case hy83 =>
       intro w hSw
       try dsimp only at hSw
       go_simp
       try with_reducible rfl
     clear hop
     try simp only [Act.put, List.setIfInBounds_toArray, List.set_cons_zero, List.set_cons_succ]
     refine heldAtV (i := 21) (oi := ?oi85) ?hi85 (fun hop => ?_)
     case hi85 => first | (simp only [List.getElem?_toArray, List.getElem?_cons_succ, List.getElem?_cons_zero]; exact rfl) | simp only [List.getElem?_toArray, List.getElem?_cons_succ, List.getElem?_cons_zero]
     refine wpAnyH_ready (rs := [21]) (by kernel_rfl) (by simp) ?_
     refine AllReadyH.cons hop (fun K hK => ?_) AllReadyH.nil
     clear hop
     go_simp
     refine (work_spots_any ok (h8.pull 4) (by have q1 := edr_small hE; have q2 := HS1.out.kmz; have q3 := HS1.out.size; have q4 := putT_size cmpI n (⟨true, nu, nm⟩ : SpD) tS; omega) (by have q1 := edr_small hE; have q2 := HS1.out.kgz; have q3 := HS1.out.size; have q4 := putT_gone cmpI n (⟨true, nu, nm⟩ : SpD) tS; omega)).mono ?_
     rintro e w5 ⟨rfl, h9, k9⟩
     have SC := makeSP7 (((h9.pull 3).pull 1).pull 3)
     obtain ⟨k1, k2, k3, k4, h10⟩ := workP_E h9
     have e10 := h10.cell 10
     have ef10 := h10.free 10
     simp [workC] at e10
     have hWl := h10.lt
     have h11 := workP_I (D := { spotsD ok rt made gone D1 with done := ok }) (h10.set 10 (.bool ok))
     have SD := makeSP7 (((h11.pull 3).pull 1).pull 3)
     refine hK.out _ _ ?_ (fun hHeld => ?_)
     · exact SC
     clear hK K
     try simp only [Act.put, List.setIfInBounds_toArray, List.set_cons_zero, List.set_cons_succ]
     refine heldAtV (i := 22) (oi := ?oi87) ?hi87 (fun hop => ?_)
     case hi87 => first | (simp only [List.getElem?_toArray, List.getElem?_cons_succ, List.getElem?_cons_zero]; exact rfl) | simp only [List.getElem?_toArray, List.getElem?_cons_succ, List.getElem?_cons_zero]
     refine wpAnyH_take (i := 22) (v := ?_) hop (by kernel_rfl) (by kernel_rfl) (by kernel_rfl) (fun _ _ _ h => h) (Or.inl ⟨by rfl, ?hy86⟩) (by assumption) ?_
     case hy86 =>
       intro w hSw
       try dsimp only at hSw
       go_simp
       try with_reducible rfl
     clear hop
     try simp only [Act.put, List.setIfInBounds_toArray, List.set_cons_zero, List.set_cons_succ]
     refine heldAtV (i := 23) (oi := ?oi89) ?hi89 (fun hop => ?_)
     case hi89 => first | (simp only [List.getElem?_toArray, List.getElem?_cons_succ, List.getElem?_cons_zero]; exact rfl) | simp only [List.getElem?_toArray, List.getElem?_cons_succ, List.getElem?_cons_zero]
     refine wpAnyH_take (i := 23) (v := ?_) hop (by kernel_rfl) (by kernel_rfl) (by kernel_rfl) (fun _ _ _ h => h) (Or.inl ⟨by rfl, ?hy88⟩) (by assumption) ?_
     case hy88 =>
       intro w hSw
       try dsimp only at hSw
       go_simp
       try with_reducible rfl
     clear hop
     try simp only [Act.put, List.setIfInBounds_toArray, List.set_cons_zero, List.set_cons_succ]
     refine heldAtV (i := 24) (oi := ?oi90) ?hi90 (fun hop => ?_)
     case hi90 => first | (simp only [List.getElem?_toArray, List.getElem?_cons_succ, List.getElem?_cons_zero]; exact rfl) | simp only [List.getElem?_toArray, List.getElem?_cons_succ, List.getElem?_cons_zero]
     refine wpAnyH_ready (rs := [24]) (by kernel_rfl) (by simp) ?_
     refine AllReadyH.cons hop (fun K hK => ?_) AllReadyH.nil
     clear hop
     go_simp
     refine hK.out _ _ ?_ (fun hHeld => ?_)
     · exact SD
     clear hK K
     try simp only [Act.put, List.setIfInBounds_toArray, List.set_cons_zero, List.set_cons_succ]
     refine wpAnyH_done (by kernel_rfl) (NoPanic.normal ?_) _
     all_goals
       have k11 := (((k6.drew.trans k8).trans k9).setCell ⟨W, 10, none⟩ (.bool ok))
       have h12 := ((h11.pull 2).tail.pull 1).push 3
       cases ok with
       | true =>
         obtain ⟨hrt, hS2⟩ := HS1.out.put cmpI_ord (by decide) hE
         have hdv : ({ spotsD true rt made gone D1 with done := true } : WorkD).v = { v with ks := T1.root.s, kg := T1.root.g, ss := T2.root.s, sg := T2.root.g } := by show ({ D1.v with ss := rt.s, sg := rt.g } : VerD) = _; rw [hrt, HDV1.out]
         have hen := work_end_d (u := .returning) (D := { spotsD true rt made gone D1 with done := true }) h12 rfl HK1.out.wk.wf hS2.wk.wf HK1.out.wk.got hS2.wk.got HK1.out.wk.nodup hS2.wk.nodup (by have := HK1.out.len; omega) (by have := hS2.len; omega) (by have := HK1.out.kmz; show D1.km.length ≤ 1000000; omega) (by have := HK1.out.kgz; show D1.kg.length ≤ 1000000; omega) (by have := hS2.kmz; show (D1.sm ++ made).length ≤ 1000000; omega) (by have := hS2.kgz; show (D1.sg ++ gone).length ≤ 1000000; omega)
         have HEN := Lib.hid hen
         have HS2 := Lib.hid hS2
         have HDV2 := Lib.hid hdv
         clear hen h12 hS2 hdv hE h8 h9 h10 h11 SB SC SD e10 ef10
         go_wp2_with fail
         refine leaves_cons (f := 111) (args := #[.pointer (some ⟨W, 0, none⟩)]) (by simp) (by simp [go_sem]) ?_
         refine HEN.out.mono ?_
         rintro e u' w'' ⟨rfl, rfl, AK2, FK2, AS2, FS2, f1, f2, h13, k13⟩
         exact ⟨.tuple #[], results_none rfl _ _ _, rfl, _, AK2, FK2, AS2, FS2, h13, k11.trans k13, .inl ⟨T1, T2, rfl, HDV2.out, HK1.out.done kord_ord HOK.out.1.rep HOK.out.1.srt f1, HS2.out.done cmpI_ord HOK.out.2.rep HOK.out.2.srt f2⟩⟩
       | false =>
         rcases hE with ⟨hq, _⟩ | ⟨_, hlt, rfl, rfl, rfl, rfl, rfl, rfl⟩
         · cases hq
         have hen := work_end_no_d (u := .returning) (D := { spotsD false Hd.nil [] [] D1 with done := false }) h12 rfl HK1.out.wk.wf HS1.out.wk.wf HK1.out.wk.got HS1.out.wk.got HK1.out.wk.nodup HS1.out.wk.nodup (by have := HK1.out.len; omega) (by have := HS1.out.len; omega) (by have := HK1.out.kmz; show D1.km.length ≤ 1000000; omega) (by have := HS1.out.kmz; show D1.sm.length ≤ 1000000; omega)
         have HEN := Lib.hid hen
         have HSH := Lib.hid (show roomA most AK FK < 2 * (tK.size + 2) ∨ roomA most AS FS < tS.size + 2 from .inr (by have q1 := freshT_size (putT cmpI n (⟨true, nu, nm⟩ : SpD) tS).1; have q4 := putT_size cmpI n (⟨true, nu, nm⟩ : SpD) tS; omega))
         clear hen h12 hlt h8 h9 h10 h11 SB SC SD e10 ef10
         go_wp2_with fail
         refine leaves_cons (f := 111) (args := #[.pointer (some ⟨W, 0, none⟩)]) (by simp) (by simp [go_sem]) ?_
         refine HEN.out.mono ?_
         rintro e u' w'' ⟨rfl, rfl, AK2, FK2, AS2, FS2, f1, f2, h13, k13⟩
         exact ⟨.tuple #[], results_none rfl _ _ _, rfl, _, AK2, FK2, AS2, FS2, h13, k11.trans k13, .inr ⟨rfl, HK1.out.undone f1 (by omega), HS1.out.undone f2 (by omega), HSH.out⟩⟩
theorem work_make_M {w : World} {l : List HProp} {W s mk ms : Nat} {n ou nu : Int} {om nm : ByteArray} {v : VerD} {most : Int} {AK : List SlotK} {FK : List Int} {AS : List SlotS} {FS : List Int} {GK GS : Nat} {tK : HTK} {tS : HTS}
   (hs : Sat w (workP W s ⟨v, [], [], [], [], false⟩ :: own s (.cells (stoC mk ms) 80 (0, 0)) :: mapK mk most AK FK :: mapS ms most AS FS :: l))
   (hvk : v.ks = tK.root.s) (hvk2 : v.kg = tK.root.g) (hvs : v.ss = tS.root.s) (hvs2 : v.sg = tS.root.g)
   (hK : VOk kord AK FK GK tK) (hS : VOk cmpI AS FS GS tS) (zK : tK.size < 40000) (zS : tS.size < 40000) (hasK : (getT kord (⟨ou, om, n⟩ : KidD) tK).isSome = true)
   (hm0 : 0 ≤ most) (hm1 : most ≤ 1000000) (lK : (AK.length : Int) ≤ most) (lS : (AS.length : Int) ≤ most) (gK : GK + 400000 < 1000000000000) (gS : GS + 400000 < 1000000000000) :
   Calls Tryz.prog 85 #[.pointer (some ⟨W, 0, none⟩), .agg #[.int .i64 n, .bool true, .int .i64 ou, .string om, .bool true, .int .i64 nu, .string nm]] w fun e w' => e = .returned (.tuple #[]) ∧ MakeA W s mk ms v most AK FK AS FS GK GS tK tS (fun x : KidD × Bool => x = ((⟨nu, nm, n⟩ : KidD), true) ∨ (x ∈ toL tK ∧ x.1 ≠ (⟨ou, om, n⟩ : KidD)) ∧ x.1 ≠ (⟨nu, nm, n⟩ : KidD)) (fun x : Int × SpD => x = (n, (⟨true, nu, nm⟩ : SpD)) ∨ x ∈ toL tS ∧ x.1 ≠ n) 2 l w w' := by
 have kiO := fun (W' : World) (l' : List HProp) (hW' : Sat W' l') => view_kid n ⟨true, ou, om⟩ hW'
 have dk := fun (W' : World) (l' : List HProp) (hW' : Sat W' (mapK mk most AK FK :: l')) => mapK_del_any kord_ok (⟨ou, om, n⟩ : KidD) hW' hK.rep hK.hi hK.wf (by omega) hasK hm0 hm1 lK (by omega)
 unfold aggSp at kiO
 dsimp only at kiO dk
 have KIO := Lib.hid kiO
 have DK := Lib.hid dk
 clear kiO dk hasK
 have ki := fun (W' : World) (l' : List HProp) (hW' : Sat W' l') => view_kid n ⟨true, nu, nm⟩ hW'
 have pk := fun (W' : World) (l' : List HProp) (A : List SlotK) (F : List Int) (T : HTK) (G : Nat) (h0 : RepO A T) (h1 : HiOk T) (h2 : WfA A F G) (z : T.size < 100000) (lA : (A.length : Int) ≤ most) (g : G + 200000 < 1000000000000) (hW' : Sat W' (mapK mk most A F :: l')) => mapK_put_any kord_ok (⟨nu, nm, n⟩ : KidD) true hW' h0 h1 h2 z hm0 hm1 lA g
 have ps := fun (W' : World) (l' : List HProp) (hW' : Sat W' (mapS ms most AS FS :: l')) => mapS_put_any cmpI_ok n (⟨true, nu, nm⟩ : SpD) hW' hS.rep hS.hi hS.wf (by omega) hm0 hm1 lS (by omega)
 unfold aggSp at ki
 dsimp only at ki pk ps
 have KI := Lib.hid ki
 have PK := Lib.hid pk
 have PS := Lib.hid ps
 clear ki pk ps
 obtain ⟨D, hD⟩ : ∃ D, D = (⟨v, [], [], [], [], false⟩ : WorkD) := ⟨_, rfl⟩
 rw [← hD] at hs
 have eK : EdS kord most AK FK GK tK AK FK GK tK D.km D.kg (fun x => x ∈ toL tK) 0 := by rw [hD]; exact EdS.init hK lK
 have eS : EdS cmpI most AS FS GS tS AS FS GS tS D.sm D.sg (fun x => x ∈ toL tS) 0 := by rw [hD]; exact EdS.init hS lS
 have HV := Lib.hid (And.intro hvk (And.intro hvk2 (And.intro hvs hvs2)))
 have HDV := Lib.hid (show D.v = v by rw [hD])
 have HDD := Lib.hid (show D.done = false by rw [hD])
 have hvk : D.v.ks = tK.root.s := by rw [HDV.out]; exact hvk
 have hvk2 : D.v.kg = tK.root.g := by rw [HDV.out]; exact hvk2
 have hvs : D.v.ss = tS.root.s := by rw [HDV.out]; exact hvs
 have hvs2 : D.v.sg = tS.root.g := by rw [HDV.out]; exact hvs2
 have HK := Lib.hid eK
 have HS := Lib.hid eS
 have HOK := Lib.hid (And.intro hK hS)
 clear eK eS hD hK hS
 have hB := hs.alloc (.cells #[.int .i64 n, .bool true, .int .i64 ou, .string om, .bool true, .int .i64 nu, .string nm] 101)
 have kB := (Kp.refl w).alloc (.cells #[.int .i64 n, .bool true, .int .i64 ou, .string om, .bool true, .int .i64 nu, .string nm] 101)
 clear hs
 go_enter_defers Tryz.func85, Tryz.ntmps85
 go_upto_region 1 with (fail)
 generalize World.alloc _ _ = w1 at hB kB ⊢
 generalize w.heap.size = X at hB ⊢
 go_upto_region 2 with (fail)
 have S0 := makeSP7 hB
 have HS0 := Lib.hid S0
 obtain ⟨a0, a1, a2, x0, x1, x2, x3, x4, x5, x6⟩ := S0
 obtain ⟨r2, r3, r4, r5⟩ := workRP hB
 rw [hvk] at r2
 rw [hvk2] at r3
 rw [hvs] at r4
 rw [hvs2] at r5
 go_cut [32] from 5 to 32 (fun bv wx => ∃ (ok : Bool) (rt : Hd) (A1 : List SlotK) (F1 : List Int) (T1 : HTK) (made gone : List Hd), bv = .bool (!ok) ∧ EdR most AK FK GK (delT kord (⟨ou, om, n⟩ : KidD) tK).1 (delT kord (⟨ou, om, n⟩ : KidD) tK).2 ok rt A1 F1 T1 made gone ∧ Sat wx (workP W s (kidsD ok rt made gone D) :: mapK mk most A1 F1 :: own X (.cells #[.int .i64 n, .bool true, .int .i64 ou, .string om, .bool true, .int .i64 nu, .string nm] 101 (0, 0)) :: own s (.cells (stoC mk ms) 80 (0, 0)) :: mapS ms most AS FS :: l) ∧ Kp w wx)
 case first =>
   refine wp_region_noPanic ?_
   refine wp_region_held_drew (S := (fun w' => w'.cell? ⟨W, 0, none⟩ = some (.pointer (some ⟨s, 0, none⟩)) ∧ w'.cell? ⟨s, 0, none⟩ = some (.pointer (some ⟨mk, 0, none⟩)) ∧ w'.cell? ⟨s, 1, none⟩ = some (.pointer (some ⟨ms, 0, none⟩)) ∧ w'.cell? ⟨X, 0, none⟩ = some (.int .i64 n) ∧ w'.cell? ⟨X, 1, none⟩ = some (.bool true) ∧ w'.cell? ⟨X, 2, none⟩ = some (.int .i64 ou) ∧ w'.cell? ⟨X, 3, none⟩ = some (.string om) ∧ w'.cell? ⟨X, 4, none⟩ = some (.bool true) ∧ w'.cell? ⟨X, 5, none⟩ = some (.int .i64 nu) ∧ w'.cell? ⟨X, 6, none⟩ = some (.string nm))) (by kernel_rfl) ?_ (fun hHeld => ?_)
   · exact HS0.out
   refine heldAtV (i := 0) (oi := ?oi104) ?hi104 (fun hop => ?_)
   case hi104 => first | (simp only [List.getElem?_toArray, List.getElem?_cons_succ, List.getElem?_cons_zero]; exact rfl) | simp only [List.getElem?_toArray, List.getElem?_cons_succ, List.getElem?_cons_zero]
   refine wpAnyH_take (i := 0) (v := ?_) hop (by kernel_rfl) (by kernel_rfl) (by kernel_rfl) (fun _ _ _ h => h) (Or.inl ⟨by rfl, ?hy103⟩) (by assumption) ?_
   case hy103 =>
     intro w hSw
     try dsimp only at hSw
     go_simp
     try with_reducible rfl
   clear hop
   try simp only [Act.put, List.setIfInBounds_toArray, List.set_cons_zero, List.set_cons_succ]
   refine heldAtV (i := 1) (oi := ?oi106) ?hi106 (fun hop => ?_)
   case hi106 => first | (simp only [List.getElem?_toArray, List.getElem?_cons_succ, List.getElem?_cons_zero]; exact rfl) | simp only [List.getElem?_toArray, List.getElem?_cons_succ, List.getElem?_cons_zero]
   refine wpAnyH_take (i := 1) (v := ?_) hop (by kernel_rfl) (by kernel_rfl) (by kernel_rfl) (fun _ _ _ h => h) (Or.inl ⟨by rfl, ?hy105⟩) (by assumption) ?_
   case hy105 =>
     intro w hSw
     try dsimp only at hSw
     go_simp
     try with_reducible rfl
   clear hop
   try simp only [Act.put, List.setIfInBounds_toArray, List.set_cons_zero, List.set_cons_succ]
   refine heldAtV (i := 2) (oi := ?oi108) ?hi108 (fun hop => ?_)
   case hi108 => first | (simp only [List.getElem?_toArray, List.getElem?_cons_succ, List.getElem?_cons_zero]; exact rfl) | simp only [List.getElem?_toArray, List.getElem?_cons_succ, List.getElem?_cons_zero]
   refine wpAnyH_take (i := 2) (v := ?_) hop (by kernel_rfl) (by kernel_rfl) (by kernel_rfl) (fun _ _ _ h => h) (Or.inl ⟨by rfl, ?hy107⟩) (by assumption) ?_
   case hy107 =>
     intro w hSw
     try dsimp only at hSw
     go_simp
     try with_reducible rfl
   clear hop
   try simp only [Act.put, List.setIfInBounds_toArray, List.set_cons_zero, List.set_cons_succ]
   refine heldAtV (i := 3) (oi := ?oi110) ?hi110 (fun hop => ?_)
   case hi110 => first | (simp only [List.getElem?_toArray, List.getElem?_cons_succ, List.getElem?_cons_zero]; exact rfl) | simp only [List.getElem?_toArray, List.getElem?_cons_succ, List.getElem?_cons_zero]
   refine wpAnyH_take (i := 3) (v := ?_) hop (by kernel_rfl) (by kernel_rfl) (by kernel_rfl) (fun _ _ _ h => h) (Or.inl ⟨by rfl, ?hy109⟩) (by assumption) ?_
   case hy109 =>
     intro w hSw
     try dsimp only at hSw
     go_simp
     try with_reducible rfl
   clear hop
   try simp only [Act.put, List.setIfInBounds_toArray, List.set_cons_zero, List.set_cons_succ]
   refine heldAtV (i := 4) (oi := ?oi112) ?hi112 (fun hop => ?_)
   case hi112 => first | (simp only [List.getElem?_toArray, List.getElem?_cons_succ, List.getElem?_cons_zero]; exact rfl) | simp only [List.getElem?_toArray, List.getElem?_cons_succ, List.getElem?_cons_zero]
   refine wpAnyH_take (i := 4) (v := ?_) hop (by kernel_rfl) (by kernel_rfl) (by kernel_rfl) (fun _ _ _ h => h) (Or.inl ⟨by rfl, ?hy111⟩) (by assumption) ?_
   case hy111 =>
     intro w hSw
     try dsimp only at hSw
     go_simp
     try with_reducible rfl
   clear hop
   try simp only [Act.put, List.setIfInBounds_toArray, List.set_cons_zero, List.set_cons_succ]
   refine heldAtV (i := 5) (oi := ?oi114) ?hi114 (fun hop => ?_)
   case hi114 => first | (simp only [List.getElem?_toArray, List.getElem?_cons_succ, List.getElem?_cons_zero]; exact rfl) | simp only [List.getElem?_toArray, List.getElem?_cons_succ, List.getElem?_cons_zero]
   refine wpAnyH_take (i := 5) (v := ?_) hop (by kernel_rfl) (by kernel_rfl) (by kernel_rfl) (fun _ _ _ h => h) (Or.inl ⟨by rfl, ?hy113⟩) (by assumption) ?_
   case hy113 =>
     intro w hSw
     try dsimp only at hSw
     go_simp
     try with_reducible rfl
   clear hop
   try simp only [Act.put, List.setIfInBounds_toArray, List.set_cons_zero, List.set_cons_succ]
   refine heldAtV (i := 6) (oi := ?oi116) ?hi116 (fun hop => ?_)
   case hi116 => first | (simp only [List.getElem?_toArray, List.getElem?_cons_succ, List.getElem?_cons_zero]; exact rfl) | simp only [List.getElem?_toArray, List.getElem?_cons_succ, List.getElem?_cons_zero]
   refine wpAnyH_take (i := 6) (v := ?_) hop (by kernel_rfl) (by kernel_rfl) (by kernel_rfl) (fun _ _ _ h => h) (Or.inl ⟨by rfl, ?hy115⟩) (by assumption) ?_
   case hy115 =>
     intro w hSw
     try dsimp only at hSw
     go_simp
     try with_reducible rfl
   clear hop
   try simp only [Act.put, List.setIfInBounds_toArray, List.set_cons_zero, List.set_cons_succ]
   refine heldAtV (i := 7) (oi := ?oi118) ?hi118 (fun hop => ?_)
   case hi118 => first | (simp only [List.getElem?_toArray, List.getElem?_cons_succ, List.getElem?_cons_zero]; exact rfl) | simp only [List.getElem?_toArray, List.getElem?_cons_succ, List.getElem?_cons_zero]
   refine wpAnyH_take (i := 7) (v := ?_) hop (by kernel_rfl) (by kernel_rfl) (by kernel_rfl) (fun _ _ _ h => h) (Or.inl ⟨by rfl, ?hy117⟩) (by assumption) ?_
   case hy117 =>
     intro w hSw
     try dsimp only at hSw
     go_simp
     try with_reducible rfl
   clear hop
   try simp only [Act.put, List.setIfInBounds_toArray, List.set_cons_zero, List.set_cons_succ]
   refine heldAtV (i := 8) (oi := ?oi120) ?hi120 (fun hop => ?_)
   case hi120 => first | (simp only [List.getElem?_toArray, List.getElem?_cons_succ, List.getElem?_cons_zero]; exact rfl) | simp only [List.getElem?_toArray, List.getElem?_cons_succ, List.getElem?_cons_zero]
   refine wpAnyH_take (i := 8) (v := ?_) hop (by kernel_rfl) (by kernel_rfl) (by kernel_rfl) (fun _ _ _ h => h) (Or.inl ⟨by rfl, ?hy119⟩) (by assumption) ?_
   case hy119 =>
     intro w hSw
     try dsimp only at hSw
     go_simp
     try with_reducible rfl
   clear hop
   try simp only [Act.put, List.setIfInBounds_toArray, List.set_cons_zero, List.set_cons_succ]
   refine heldAtV (i := 9) (oi := ?oi122) ?hi122 (fun hop => ?_)
   case hi122 => first | (simp only [List.getElem?_toArray, List.getElem?_cons_succ, List.getElem?_cons_zero]; exact rfl) | simp only [List.getElem?_toArray, List.getElem?_cons_succ, List.getElem?_cons_zero]
   refine wpAnyH_take (i := 9) (v := ?_) hop (by kernel_rfl) (by kernel_rfl) (by kernel_rfl) (fun _ _ _ h => h) (Or.inl ⟨by rfl, ?hy121⟩) (by assumption) ?_
   case hy121 =>
     intro w hSw
     try dsimp only at hSw
     go_simp
     try with_reducible rfl
   clear hop
   try simp only [Act.put, List.setIfInBounds_toArray, List.set_cons_zero, List.set_cons_succ]
   refine heldAtV (i := 10) (oi := ?oi124) ?hi124 (fun hop => ?_)
   case hi124 => first | (simp only [List.getElem?_toArray, List.getElem?_cons_succ, List.getElem?_cons_zero]; exact rfl) | simp only [List.getElem?_toArray, List.getElem?_cons_succ, List.getElem?_cons_zero]
   refine wpAnyH_take (i := 10) (v := ?_) hop (by kernel_rfl) (by kernel_rfl) (by kernel_rfl) (fun _ _ _ h => h) (Or.inl ⟨by rfl, ?hy123⟩) (by assumption) ?_
   case hy123 =>
     intro w hSw
     try dsimp only at hSw
     go_simp
     try with_reducible rfl
   clear hop
   try simp only [Act.put, List.setIfInBounds_toArray, List.set_cons_zero, List.set_cons_succ]
   refine heldAtV (i := 11) (oi := ?oi126) ?hi126 (fun hop => ?_)
   case hi126 => first | (simp only [List.getElem?_toArray, List.getElem?_cons_succ, List.getElem?_cons_zero]; exact rfl) | simp only [List.getElem?_toArray, List.getElem?_cons_succ, List.getElem?_cons_zero]
   refine wpAnyH_take (i := 11) (v := ?_) hop (by kernel_rfl) (by kernel_rfl) (by kernel_rfl) (fun _ _ _ h => h) (Or.inl ⟨by rfl, ?hy125⟩) (by assumption) ?_
   case hy125 =>
     intro w hSw
     try dsimp only at hSw
     go_simp
     try with_reducible rfl
   clear hop
   try simp only [Act.put, List.setIfInBounds_toArray, List.set_cons_zero, List.set_cons_succ]
   refine heldAtV (i := 12) (oi := ?oi128) ?hi128 (fun hop => ?_)
   case hi128 => first | (simp only [List.getElem?_toArray, List.getElem?_cons_succ, List.getElem?_cons_zero]; exact rfl) | simp only [List.getElem?_toArray, List.getElem?_cons_succ, List.getElem?_cons_zero]
   refine wpAnyH_take (i := 12) (v := ?_) hop (by kernel_rfl) (by kernel_rfl) (by kernel_rfl) (fun _ _ _ h => h) (Or.inl ⟨by rfl, ?hy127⟩) (by assumption) ?_
   case hy127 =>
     intro w hSw
     try dsimp only at hSw
     go_simp
     try with_reducible rfl
   clear hop
   try simp only [Act.put, List.setIfInBounds_toArray, List.set_cons_zero, List.set_cons_succ]
   refine heldAtV (i := 13) (oi := ?oi130) ?hi130 (fun hop => ?_)
   case hi130 => first | (simp only [List.getElem?_toArray, List.getElem?_cons_succ, List.getElem?_cons_zero]; exact rfl) | simp only [List.getElem?_toArray, List.getElem?_cons_succ, List.getElem?_cons_zero]
   refine wpAnyH_take (i := 13) (v := ?_) hop (by kernel_rfl) (by kernel_rfl) (by kernel_rfl) (fun _ _ _ h => h) (Or.inl ⟨by rfl, ?hy129⟩) (by assumption) ?_
   case hy129 =>
     intro w hSw
     try dsimp only at hSw
     go_simp
     try with_reducible rfl
   clear hop
   try simp only [Act.put, List.setIfInBounds_toArray, List.set_cons_zero, List.set_cons_succ]
   refine heldAtV (i := 14) (oi := ?oi132) ?hi132 (fun hop => ?_)
   case hi132 => first | (simp only [List.getElem?_toArray, List.getElem?_cons_succ, List.getElem?_cons_zero]; exact rfl) | simp only [List.getElem?_toArray, List.getElem?_cons_succ, List.getElem?_cons_zero]
   refine wpAnyH_take (i := 14) (v := ?_) hop (by kernel_rfl) (by kernel_rfl) (by kernel_rfl) (fun _ _ _ h => h) (Or.inl ⟨by rfl, ?hy131⟩) (by assumption) ?_
   case hy131 =>
     intro w hSw
     try dsimp only at hSw
     go_simp
     try with_reducible rfl
   clear hop
   try simp only [Act.put, List.setIfInBounds_toArray, List.set_cons_zero, List.set_cons_succ]
   refine heldAtV (i := 15) (oi := ?oi134) ?hi134 (fun hop => ?_)
   case hi134 => first | (simp only [List.getElem?_toArray, List.getElem?_cons_succ, List.getElem?_cons_zero]; exact rfl) | simp only [List.getElem?_toArray, List.getElem?_cons_succ, List.getElem?_cons_zero]
   refine wpAnyH_take (i := 15) (v := ?_) hop (by kernel_rfl) (by kernel_rfl) (by kernel_rfl) (fun _ _ _ h => h) (Or.inl ⟨by rfl, ?hy133⟩) (by assumption) ?_
   case hy133 =>
     intro w hSw
     try dsimp only at hSw
     go_simp
     try with_reducible rfl
   clear hop
   try simp only [Act.put, List.setIfInBounds_toArray, List.set_cons_zero, List.set_cons_succ]
   refine heldAtV (i := 17) (oi := ?oi136) ?hi136 (fun hop => ?_)
   case hi136 => first | (simp only [List.getElem?_toArray, List.getElem?_cons_succ, List.getElem?_cons_zero]; exact rfl) | simp only [List.getElem?_toArray, List.getElem?_cons_succ, List.getElem?_cons_zero]
   refine wpAnyH_take (i := 17) (v := ?_) hop (by kernel_rfl) (by kernel_rfl) (by kernel_rfl) (fun _ _ _ h => h) (Or.inl ⟨by rfl, ?hy135⟩) (by assumption) ?_
   case hy135 =>
     intro w hSw
     try dsimp only at hSw
     go_simp
     try with_reducible rfl
   clear hop
   try simp only [Act.put, List.setIfInBounds_toArray, List.set_cons_zero, List.set_cons_succ]
   refine heldAtV (i := 18) (oi := ?oi138) ?hi138 (fun hop => ?_)
   case hi138 => first | (simp only [List.getElem?_toArray, List.getElem?_cons_succ, List.getElem?_cons_zero]; exact rfl) | simp only [List.getElem?_toArray, List.getElem?_cons_succ, List.getElem?_cons_zero]
   refine wpAnyH_take (i := 18) (v := ?_) hop (by kernel_rfl) (by kernel_rfl) (by kernel_rfl) (fun _ _ _ h => h) (Or.inl ⟨by rfl, ?hy137⟩) (by assumption) ?_
   case hy137 =>
     intro w hSw
     try dsimp only at hSw
     go_simp
     try with_reducible rfl
   clear hop
   try simp only [Act.put, List.setIfInBounds_toArray, List.set_cons_zero, List.set_cons_succ]
   refine heldAtV (i := 19) (oi := ?oi140) ?hi140 (fun hop => ?_)
   case hi140 => first | (simp only [List.getElem?_toArray, List.getElem?_cons_succ, List.getElem?_cons_zero]; exact rfl) | simp only [List.getElem?_toArray, List.getElem?_cons_succ, List.getElem?_cons_zero]
   refine wpAnyH_take (i := 19) (v := ?_) hop (by kernel_rfl) (by kernel_rfl) (by kernel_rfl) (fun _ _ _ h => h) (Or.inl ⟨by rfl, ?hy139⟩) (by assumption) ?_
   case hy139 =>
     intro w hSw
     try dsimp only at hSw
     go_simp
     try with_reducible rfl
   clear hop
   try simp only [Act.put, List.setIfInBounds_toArray, List.set_cons_zero, List.set_cons_succ]
   refine heldAtV (i := 20) (oi := ?oi142) ?hi142 (fun hop => ?_)
   case hi142 => first | (simp only [List.getElem?_toArray, List.getElem?_cons_succ, List.getElem?_cons_zero]; exact rfl) | simp only [List.getElem?_toArray, List.getElem?_cons_succ, List.getElem?_cons_zero]
   refine wpAnyH_take (i := 20) (v := ?_) hop (by kernel_rfl) (by kernel_rfl) (by kernel_rfl) (fun _ _ _ h => h) (Or.inl ⟨by rfl, ?hy141⟩) (by assumption) ?_
   case hy141 =>
     intro w hSw
     try dsimp only at hSw
     go_simp
     try with_reducible rfl
   clear hop
   try simp only [Act.put, List.setIfInBounds_toArray, List.set_cons_zero, List.set_cons_succ]
   refine heldAtV (i := 16) (oi := ?oi143) ?hi143 (fun hopi => ?_)
   case hi143 => first | (simp only [List.getElem?_toArray, List.getElem?_cons_succ, List.getElem?_cons_zero]; exact rfl) | simp only [List.getElem?_toArray, List.getElem?_cons_succ, List.getElem?_cons_zero]
   refine heldAtV (i := 21) (oi := ?oi144) ?hi144 (fun hopj => ?_)
   case hi144 => first | (simp only [List.getElem?_toArray, List.getElem?_cons_succ, List.getElem?_cons_zero]; exact rfl) | simp only [List.getElem?_toArray, List.getElem?_cons_succ, List.getElem?_cons_zero]
   refine wpAnyH_ready (rs := [16, 21]) (by kernel_rfl) (by simp) ?_
   refine AllReadyH.cons hopi (fun K hK => ?_) (AllReadyH.cons hopj (fun K hK => ?_) AllReadyH.nil)
   · clear hopi hopj
     go_simp
     refine hK.out _ _ ?_ (fun hHeld => ?_)
     · exact HS0.out
     clear hK K
     try simp only [Act.put, List.setIfInBounds_toArray, List.set_cons_zero, List.set_cons_succ]
     refine heldAtV (i := 21) (oi := ?oi101) ?hi101 (fun hop => ?_)
     case hi101 => first | (simp only [List.getElem?_toArray, List.getElem?_cons_succ, List.getElem?_cons_zero]; exact rfl) | simp only [List.getElem?_toArray, List.getElem?_cons_succ, List.getElem?_cons_zero]
     refine wpAnyH_ready (rs := [21]) (by kernel_rfl) (by simp) ?_
     refine AllReadyH.cons hop (fun K hK => ?_) AllReadyH.nil
     clear hop
     go_simp
     refine (KIO.out _ _ hB.drew).mono ?_
     rintro e w3 ⟨rfl, h3, k3⟩
     have SA := makeSP7 h3
     obtain ⟨t2, t3, t4, t5⟩ := workRP h3
     rw [hvk] at t2
     rw [hvk2] at t3
     refine hK.out _ _ ?_ (fun hHeld => ?_)
     · exact SA
     clear hK K
     try simp only [Act.put, List.setIfInBounds_toArray, List.set_cons_zero, List.set_cons_succ]
     refine heldAtV (i := 22) (oi := ?oi91) ?hi91 (fun hop => ?_)
     case hi91 => first | (simp only [List.getElem?_toArray, List.getElem?_cons_succ, List.getElem?_cons_zero]; exact rfl) | simp only [List.getElem?_toArray, List.getElem?_cons_succ, List.getElem?_cons_zero]
     refine wpAnyH_ready (rs := [22]) (by kernel_rfl) (by simp) ?_
     refine AllReadyH.cons hop (fun K hK => ?_) AllReadyH.nil
     clear hop
     go_simp
     refine (DK.out _ _ (h3.pull 3)).mono ?_
     rintro e w4 ⟨ok, rt, mv, gv, A1, F1, T1, made, gone, rfl, hE, h4, k4⟩
     have SB := makeSP7 (((h4.pull 5).pull 5).pull 5)
     refine hK.out _ _ ?_ (fun hHeld => ?_)
     · exact SB
     clear hK K
     try simp only [Act.put, List.setIfInBounds_toArray, List.set_cons_zero, List.set_cons_succ]
     refine heldAtV (i := 23) (oi := ?oi93) ?hi93 (fun hop => ?_)
     case hi93 => first | (simp only [List.getElem?_toArray, List.getElem?_cons_succ, List.getElem?_cons_zero]; exact rfl) | simp only [List.getElem?_toArray, List.getElem?_cons_succ, List.getElem?_cons_zero]
     refine wpAnyH_take (i := 23) (v := ?_) hop (by kernel_rfl) (by kernel_rfl) (by kernel_rfl) (fun _ _ _ h => h) (Or.inl ⟨by rfl, ?hy92⟩) (by assumption) ?_
     case hy92 =>
       intro w hSw
       try dsimp only at hSw
       go_simp
       try with_reducible rfl
     clear hop
     try simp only [Act.put, List.setIfInBounds_toArray, List.set_cons_zero, List.set_cons_succ]
     refine heldAtV (i := 24) (oi := ?oi95) ?hi95 (fun hop => ?_)
     case hi95 => first | (simp only [List.getElem?_toArray, List.getElem?_cons_succ, List.getElem?_cons_zero]; exact rfl) | simp only [List.getElem?_toArray, List.getElem?_cons_succ, List.getElem?_cons_zero]
     refine wpAnyH_take (i := 24) (v := ?_) hop (by kernel_rfl) (by kernel_rfl) (by kernel_rfl) (fun _ _ _ h => h) (Or.inl ⟨by rfl, ?hy94⟩) (by assumption) ?_
     case hy94 =>
       intro w hSw
       try dsimp only at hSw
       go_simp
       try with_reducible rfl
     clear hop
     try simp only [Act.put, List.setIfInBounds_toArray, List.set_cons_zero, List.set_cons_succ]
     refine heldAtV (i := 25) (oi := ?oi96) ?hi96 (fun hop => ?_)
     case hi96 => first | (simp only [List.getElem?_toArray, List.getElem?_cons_succ, List.getElem?_cons_zero]; exact rfl) | simp only [List.getElem?_toArray, List.getElem?_cons_succ, List.getElem?_cons_zero]
     refine wpAnyH_ready (rs := [25]) (by kernel_rfl) (by simp) ?_
     refine AllReadyH.cons hop (fun K hK => ?_) AllReadyH.nil
     clear hop
     go_simp
     refine (work_kids_any ok (h4.pull 4) (by have q1 := edr_small hE; have q2 := HK.out.kmz; have q3 := HK.out.size; have q4 := delT_size kord (⟨ou, om, n⟩ : KidD) tK; omega) (by have q1 := edr_small hE; have q2 := HK.out.kgz; have q3 := HK.out.size; have q4 := delT_gone kord (⟨ou, om, n⟩ : KidD) tK; omega)).mono ?_
     rintro e w5 ⟨rfl, h5, k5⟩
     have SC := makeSP7 (((h5.pull 3).pull 1).pull 3)
     refine hK.out _ _ ?_ (fun hHeld => ?_)
     · exact SC
     clear hK K
     try simp only [Act.put, List.setIfInBounds_toArray, List.set_cons_zero, List.set_cons_succ]
     refine heldAtV (i := 26) (oi := ?oi98) ?hi98 (fun hop => ?_)
     case hi98 => first | (simp only [List.getElem?_toArray, List.getElem?_cons_succ, List.getElem?_cons_zero]; exact rfl) | simp only [List.getElem?_toArray, List.getElem?_cons_succ, List.getElem?_cons_zero]
     refine wpAnyH_take (i := 26) (v := ?_) hop (by kernel_rfl) (by kernel_rfl) (by kernel_rfl) (fun _ _ _ h => h) (Or.inl ⟨by rfl, ?hy97⟩) (by assumption) ?_
     case hy97 =>
       intro w hSw
       try dsimp only at hSw
       go_simp
       try with_reducible rfl
     clear hop
     try simp only [Act.put, List.setIfInBounds_toArray, List.set_cons_zero, List.set_cons_succ]
     refine heldAtV (i := 27) (oi := ?oi100) ?hi100 (fun hop => ?_)
     case hi100 => first | (simp only [List.getElem?_toArray, List.getElem?_cons_succ, List.getElem?_cons_zero]; exact rfl) | simp only [List.getElem?_toArray, List.getElem?_cons_succ, List.getElem?_cons_zero]
     refine wpAnyH_take (i := 27) (v := ?_) hop (by kernel_rfl) (by kernel_rfl) (by kernel_rfl) (fun _ _ _ h => h) (Or.inl ⟨by rfl, ?hy99⟩) (by assumption) ?_
     case hy99 =>
       intro w hSw
       try dsimp only at hSw
       go_simp
       try with_reducible rfl
     clear hop
     try simp only [Act.put, List.setIfInBounds_toArray, List.set_cons_zero, List.set_cons_succ]
     refine wpAnyH_done (by kernel_rfl) (NoPanic.normal ?_) _
     go_wp2_with fail
     go_meet
     case rel => exact ⟨ok, rt, A1, F1, T1, made, gone, rfl, hE, h5, ((kB.drew.trans k3).trans k4).trans k5⟩
   · clear hopi hopj
     go_simp
     refine (KIO.out _ _ hB.drew).mono ?_
     rintro e w3 ⟨rfl, h3, k3⟩
     have SA := makeSP7 h3
     obtain ⟨t2, t3, t4, t5⟩ := workRP h3
     rw [hvk] at t2
     rw [hvk2] at t3
     refine hK.out _ _ ?_ (fun hHeld => ?_)
     · exact SA
     clear hK K
     try simp only [Act.put, List.setIfInBounds_toArray, List.set_cons_zero, List.set_cons_succ]
     refine heldAtV (i := 16) (oi := ?oi102) ?hi102 (fun hop => ?_)
     case hi102 => first | (simp only [List.getElem?_toArray, List.getElem?_cons_succ, List.getElem?_cons_zero]; exact rfl) | simp only [List.getElem?_toArray, List.getElem?_cons_succ, List.getElem?_cons_zero]
     refine wpAnyH_ready (rs := [16]) (by kernel_rfl) (by simp) ?_
     refine AllReadyH.cons hop (fun K hK => ?_) AllReadyH.nil
     clear hop
     go_simp
     refine hK.out _ _ ?_ (fun hHeld => ?_)
     · exact SA
     clear hK K
     try simp only [Act.put, List.setIfInBounds_toArray, List.set_cons_zero, List.set_cons_succ]
     refine heldAtV (i := 22) (oi := ?oi91) ?hi91 (fun hop => ?_)
     case hi91 => first | (simp only [List.getElem?_toArray, List.getElem?_cons_succ, List.getElem?_cons_zero]; exact rfl) | simp only [List.getElem?_toArray, List.getElem?_cons_succ, List.getElem?_cons_zero]
     refine wpAnyH_ready (rs := [22]) (by kernel_rfl) (by simp) ?_
     refine AllReadyH.cons hop (fun K hK => ?_) AllReadyH.nil
     clear hop
     go_simp
     refine (DK.out _ _ (h3.pull 3)).mono ?_
     rintro e w4 ⟨ok, rt, mv, gv, A1, F1, T1, made, gone, rfl, hE, h4, k4⟩
     have SB := makeSP7 (((h4.pull 5).pull 5).pull 5)
     refine hK.out _ _ ?_ (fun hHeld => ?_)
     · exact SB
     clear hK K
     try simp only [Act.put, List.setIfInBounds_toArray, List.set_cons_zero, List.set_cons_succ]
     refine heldAtV (i := 23) (oi := ?oi93) ?hi93 (fun hop => ?_)
     case hi93 => first | (simp only [List.getElem?_toArray, List.getElem?_cons_succ, List.getElem?_cons_zero]; exact rfl) | simp only [List.getElem?_toArray, List.getElem?_cons_succ, List.getElem?_cons_zero]
     refine wpAnyH_take (i := 23) (v := ?_) hop (by kernel_rfl) (by kernel_rfl) (by kernel_rfl) (fun _ _ _ h => h) (Or.inl ⟨by rfl, ?hy92⟩) (by assumption) ?_
     case hy92 =>
       intro w hSw
       try dsimp only at hSw
       go_simp
       try with_reducible rfl
     clear hop
     try simp only [Act.put, List.setIfInBounds_toArray, List.set_cons_zero, List.set_cons_succ]
     refine heldAtV (i := 24) (oi := ?oi95) ?hi95 (fun hop => ?_)
     case hi95 => first | (simp only [List.getElem?_toArray, List.getElem?_cons_succ, List.getElem?_cons_zero]; exact rfl) | simp only [List.getElem?_toArray, List.getElem?_cons_succ, List.getElem?_cons_zero]
     refine wpAnyH_take (i := 24) (v := ?_) hop (by kernel_rfl) (by kernel_rfl) (by kernel_rfl) (fun _ _ _ h => h) (Or.inl ⟨by rfl, ?hy94⟩) (by assumption) ?_
     case hy94 =>
       intro w hSw
       try dsimp only at hSw
       go_simp
       try with_reducible rfl
     clear hop
     try simp only [Act.put, List.setIfInBounds_toArray, List.set_cons_zero, List.set_cons_succ]
     refine heldAtV (i := 25) (oi := ?oi96) ?hi96 (fun hop => ?_)
     case hi96 => first | (simp only [List.getElem?_toArray, List.getElem?_cons_succ, List.getElem?_cons_zero]; exact rfl) | simp only [List.getElem?_toArray, List.getElem?_cons_succ, List.getElem?_cons_zero]
     refine wpAnyH_ready (rs := [25]) (by kernel_rfl) (by simp) ?_
     refine AllReadyH.cons hop (fun K hK => ?_) AllReadyH.nil
     clear hop
     go_simp
     refine (work_kids_any ok (h4.pull 4) (by have q1 := edr_small hE; have q2 := HK.out.kmz; have q3 := HK.out.size; have q4 := delT_size kord (⟨ou, om, n⟩ : KidD) tK; omega) (by have q1 := edr_small hE; have q2 := HK.out.kgz; have q3 := HK.out.size; have q4 := delT_gone kord (⟨ou, om, n⟩ : KidD) tK; omega)).mono ?_
     rintro e w5 ⟨rfl, h5, k5⟩
     have SC := makeSP7 (((h5.pull 3).pull 1).pull 3)
     refine hK.out _ _ ?_ (fun hHeld => ?_)
     · exact SC
     clear hK K
     try simp only [Act.put, List.setIfInBounds_toArray, List.set_cons_zero, List.set_cons_succ]
     refine heldAtV (i := 26) (oi := ?oi98) ?hi98 (fun hop => ?_)
     case hi98 => first | (simp only [List.getElem?_toArray, List.getElem?_cons_succ, List.getElem?_cons_zero]; exact rfl) | simp only [List.getElem?_toArray, List.getElem?_cons_succ, List.getElem?_cons_zero]
     refine wpAnyH_take (i := 26) (v := ?_) hop (by kernel_rfl) (by kernel_rfl) (by kernel_rfl) (fun _ _ _ h => h) (Or.inl ⟨by rfl, ?hy97⟩) (by assumption) ?_
     case hy97 =>
       intro w hSw
       try dsimp only at hSw
       go_simp
       try with_reducible rfl
     clear hop
     try simp only [Act.put, List.setIfInBounds_toArray, List.set_cons_zero, List.set_cons_succ]
     refine heldAtV (i := 27) (oi := ?oi100) ?hi100 (fun hop => ?_)
     case hi100 => first | (simp only [List.getElem?_toArray, List.getElem?_cons_succ, List.getElem?_cons_zero]; exact rfl) | simp only [List.getElem?_toArray, List.getElem?_cons_succ, List.getElem?_cons_zero]
     refine wpAnyH_take (i := 27) (v := ?_) hop (by kernel_rfl) (by kernel_rfl) (by kernel_rfl) (fun _ _ _ h => h) (Or.inl ⟨by rfl, ?hy99⟩) (by assumption) ?_
     case hy99 =>
       intro w hSw
       try dsimp only at hSw
       go_simp
       try with_reducible rfl
     clear hop
     try simp only [Act.put, List.setIfInBounds_toArray, List.set_cons_zero, List.set_cons_succ]
     refine wpAnyH_done (by kernel_rfl) (NoPanic.normal ?_) _
     go_wp2_with fail
     go_meet
     case rel => exact ⟨ok, rt, A1, F1, T1, made, gone, rfl, hE, h5, ((kB.drew.trans k3).trans k4).trans k5⟩
 case rest =>
   obtain ⟨ok, rt, A1, F1, T1, made, gone, rfl, hE, h6, k6⟩ := hcut
   clear hB kB HS0 a0 a1 a2 x0 x1 x2 x3 x4 x5 x6 r2 r3 r4 r5
   cases ok with
   | false =>
     rcases hE with ⟨hq, _⟩ | ⟨_, hlt, rfl, rfl, rfl, rfl, rfl, rfl⟩
     · cases hq
     have h7 := ((h6.pull 2).tail.pull 2).swap
     have hen := work_end_no_d (u := .returning) (D := D) h7 HDD.out HK.out.wk.wf HS.out.wk.wf HK.out.wk.got HS.out.wk.got HK.out.wk.nodup HS.out.wk.nodup (by have := HK.out.len; omega) (by have := HS.out.len; omega) (by have := HK.out.kmz; omega) (by have := HS.out.kmz; omega)
     have HEN := Lib.hid hen
     have HSH := Lib.hid (show roomA most AK FK < 2 * (tK.size + 2) ∨ roomA most AS FS < tS.size + 2 from .inl (by have q1 := freshT_size (delT kord (⟨ou, om, n⟩ : KidD) tK).1; have q2 := delT_size kord (⟨ou, om, n⟩ : KidD) tK; omega))
     clear hen h7 hlt
     go_wp2_with fail
     refine leaves_cons (f := 111) (args := #[.pointer (some ⟨W, 0, none⟩)]) (by simp) (by simp [go_sem]) ?_
     refine HEN.out.mono ?_
     rintro e u' w'' ⟨rfl, rfl, AK2, FK2, AS2, FS2, f1, f2, h13, k13⟩
     exact ⟨.tuple #[], results_none rfl _ _ _, rfl, D, AK2, FK2, AS2, FS2, h13, k6.trans k13, .inr ⟨HDD.out, HK.out.undone f1 (by omega), HS.out.undone f2 (by omega), HSH.out⟩⟩
   | true =>
     obtain ⟨hrt, hK1⟩ := HK.out.del kord_ord (by decide) hE
     obtain ⟨D1, hD1⟩ : ∃ D1, D1 = kidsD true rt made gone D := ⟨_, rfl⟩
     rw [← hD1] at h6
     have e1 : D1.v = { D.v with ks := rt.s, kg := rt.g } := by rw [hD1]; rfl
     have e2 : D1.km = D.km ++ made := by rw [hD1]; rfl
     have e3 : D1.kg = D.kg ++ gone := by rw [hD1]; rfl
     have e4 : D1.sm = D.sm := by rw [hD1]; rfl
     have e5 : D1.sg = D.sg := by rw [hD1]; rfl
     have e6 : D1.done = false := by rw [hD1]; exact HDD.out
     rw [← e2, ← e3] at hK1
     have hS1 := HS.out
     rw [← e4, ← e5] at hS1
     have HDV1 := Lib.hid (show D1.v = { v with ks := T1.root.s, kg := T1.root.g } by rw [e1, hrt, HDV.out])
     have hvk' : D1.v.ks = T1.root.s := by rw [HDV1.out]
     have hvk2' : D1.v.kg = T1.root.g := by rw [HDV1.out]
     have hvs' : D1.v.ss = tS.root.s := by rw [e1]; exact hvs
     have hvs2' : D1.v.sg = tS.root.g := by rw [e1]; exact hvs2
     have HK1 := Lib.hid hK1
     have HS1 := Lib.hid hS1
     have HDD1 := Lib.hid e6
     have h7 := ((h6.pull 2).pull 3).push 2
     clear h6 hE hrt hK1 hD1 e1 e2 e3 e4 e5 e6 hS1 hvk hvk2 hvs hvs2
     have x4 := (h7).cell 4
     simp at x4
     have hvk := hvk'
     have hvk2 := hvk2'
     have hvs := hvs'
     have hvs2 := hvs2'
     clear hvk' hvk2' hvs' hvs2' HK HS HDV HDD
     have HK := HK1
     have HS := HS1
     have HDV := HDV1
     have HDD := HDD1
     clear HK1 HS1 HDV1 HDD1
     generalize D1 = D2 at *
     go_upto_region 5 with (fail)
     clear x4
     have S0 := makeSP7 h7
     have HS0 := Lib.hid S0
     obtain ⟨a0, a1, a2, x0, x1, x2, x3, x4, x5, x6⟩ := S0
     obtain ⟨r2, r3, r4, r5⟩ := workRP h7
     rw [hvk] at r2
     rw [hvk2] at r3
     rw [hvs] at r4
     rw [hvs2] at r5
     go_cut [81] from 59 to 81 (fun bv wx => ∃ (ok : Bool) (rt : Hd) (A3 : List SlotK) (F3 : List Int) (T3 : HTK) (made gone : List Hd), bv = .bool (!ok) ∧ EdR most A1 F1 (GK + freshT (delT kord (⟨ou, om, n⟩ : KidD) tK).1) (putT kord (⟨nu, nm, n⟩ : KidD) true T1).1 (putT kord (⟨nu, nm, n⟩ : KidD) true T1).2 ok rt A3 F3 T3 made gone ∧ Sat wx (workP W s (kidsD ok rt made gone D2) :: mapK mk most A3 F3 :: own X (.cells #[.int .i64 n, .bool true, .int .i64 ou, .string om, .bool true, .int .i64 nu, .string nm] 101 (0, 0)) :: own s (.cells (stoC mk ms) 80 (0, 0)) :: mapS ms most AS FS :: l) ∧ Kp w wx)
     case first =>
       refine wp_region_noPanic ?_
       refine wp_region_held_drew (S := (fun w' => w'.cell? ⟨W, 0, none⟩ = some (.pointer (some ⟨s, 0, none⟩)) ∧ w'.cell? ⟨s, 0, none⟩ = some (.pointer (some ⟨mk, 0, none⟩)) ∧ w'.cell? ⟨s, 1, none⟩ = some (.pointer (some ⟨ms, 0, none⟩)) ∧ w'.cell? ⟨X, 0, none⟩ = some (.int .i64 n) ∧ w'.cell? ⟨X, 1, none⟩ = some (.bool true) ∧ w'.cell? ⟨X, 2, none⟩ = some (.int .i64 ou) ∧ w'.cell? ⟨X, 3, none⟩ = some (.string om) ∧ w'.cell? ⟨X, 4, none⟩ = some (.bool true) ∧ w'.cell? ⟨X, 5, none⟩ = some (.int .i64 nu) ∧ w'.cell? ⟨X, 6, none⟩ = some (.string nm))) (by kernel_rfl) ?_ (fun hHeld => ?_)
       · exact HS0.out
       refine heldAtV (i := 0) (oi := ?oi156) ?hi156 (fun hop => ?_)
       case hi156 => first | (simp only [List.getElem?_toArray, List.getElem?_cons_succ, List.getElem?_cons_zero]; exact rfl) | simp only [List.getElem?_toArray, List.getElem?_cons_succ, List.getElem?_cons_zero]
       refine wpAnyH_take (i := 0) (v := ?_) hop (by kernel_rfl) (by kernel_rfl) (by kernel_rfl) (fun _ _ _ h => h) (Or.inl ⟨by rfl, ?hy155⟩) (by assumption) ?_
       case hy155 =>
         intro w hSw
         try dsimp only at hSw
         go_simp
         try with_reducible rfl
       clear hop
       try simp only [Act.put, List.setIfInBounds_toArray, List.set_cons_zero, List.set_cons_succ]
       refine heldAtV (i := 1) (oi := ?oi158) ?hi158 (fun hop => ?_)
       case hi158 => first | (simp only [List.getElem?_toArray, List.getElem?_cons_succ, List.getElem?_cons_zero]; exact rfl) | simp only [List.getElem?_toArray, List.getElem?_cons_succ, List.getElem?_cons_zero]
       refine wpAnyH_take (i := 1) (v := ?_) hop (by kernel_rfl) (by kernel_rfl) (by kernel_rfl) (fun _ _ _ h => h) (Or.inl ⟨by rfl, ?hy157⟩) (by assumption) ?_
       case hy157 =>
         intro w hSw
         try dsimp only at hSw
         go_simp
         try with_reducible rfl
       clear hop
       try simp only [Act.put, List.setIfInBounds_toArray, List.set_cons_zero, List.set_cons_succ]
       refine heldAtV (i := 2) (oi := ?oi160) ?hi160 (fun hop => ?_)
       case hi160 => first | (simp only [List.getElem?_toArray, List.getElem?_cons_succ, List.getElem?_cons_zero]; exact rfl) | simp only [List.getElem?_toArray, List.getElem?_cons_succ, List.getElem?_cons_zero]
       refine wpAnyH_take (i := 2) (v := ?_) hop (by kernel_rfl) (by kernel_rfl) (by kernel_rfl) (fun _ _ _ h => h) (Or.inl ⟨by rfl, ?hy159⟩) (by assumption) ?_
       case hy159 =>
         intro w hSw
         try dsimp only at hSw
         go_simp
         try with_reducible rfl
       clear hop
       try simp only [Act.put, List.setIfInBounds_toArray, List.set_cons_zero, List.set_cons_succ]
       refine heldAtV (i := 3) (oi := ?oi162) ?hi162 (fun hop => ?_)
       case hi162 => first | (simp only [List.getElem?_toArray, List.getElem?_cons_succ, List.getElem?_cons_zero]; exact rfl) | simp only [List.getElem?_toArray, List.getElem?_cons_succ, List.getElem?_cons_zero]
       refine wpAnyH_take (i := 3) (v := ?_) hop (by kernel_rfl) (by kernel_rfl) (by kernel_rfl) (fun _ _ _ h => h) (Or.inl ⟨by rfl, ?hy161⟩) (by assumption) ?_
       case hy161 =>
         intro w hSw
         try dsimp only at hSw
         go_simp
         try with_reducible rfl
       clear hop
       try simp only [Act.put, List.setIfInBounds_toArray, List.set_cons_zero, List.set_cons_succ]
       refine heldAtV (i := 4) (oi := ?oi164) ?hi164 (fun hop => ?_)
       case hi164 => first | (simp only [List.getElem?_toArray, List.getElem?_cons_succ, List.getElem?_cons_zero]; exact rfl) | simp only [List.getElem?_toArray, List.getElem?_cons_succ, List.getElem?_cons_zero]
       refine wpAnyH_take (i := 4) (v := ?_) hop (by kernel_rfl) (by kernel_rfl) (by kernel_rfl) (fun _ _ _ h => h) (Or.inl ⟨by rfl, ?hy163⟩) (by assumption) ?_
       case hy163 =>
         intro w hSw
         try dsimp only at hSw
         go_simp
         try with_reducible rfl
       clear hop
       try simp only [Act.put, List.setIfInBounds_toArray, List.set_cons_zero, List.set_cons_succ]
       refine heldAtV (i := 5) (oi := ?oi166) ?hi166 (fun hop => ?_)
       case hi166 => first | (simp only [List.getElem?_toArray, List.getElem?_cons_succ, List.getElem?_cons_zero]; exact rfl) | simp only [List.getElem?_toArray, List.getElem?_cons_succ, List.getElem?_cons_zero]
       refine wpAnyH_take (i := 5) (v := ?_) hop (by kernel_rfl) (by kernel_rfl) (by kernel_rfl) (fun _ _ _ h => h) (Or.inl ⟨by rfl, ?hy165⟩) (by assumption) ?_
       case hy165 =>
         intro w hSw
         try dsimp only at hSw
         go_simp
         try with_reducible rfl
       clear hop
       try simp only [Act.put, List.setIfInBounds_toArray, List.set_cons_zero, List.set_cons_succ]
       refine heldAtV (i := 6) (oi := ?oi168) ?hi168 (fun hop => ?_)
       case hi168 => first | (simp only [List.getElem?_toArray, List.getElem?_cons_succ, List.getElem?_cons_zero]; exact rfl) | simp only [List.getElem?_toArray, List.getElem?_cons_succ, List.getElem?_cons_zero]
       refine wpAnyH_take (i := 6) (v := ?_) hop (by kernel_rfl) (by kernel_rfl) (by kernel_rfl) (fun _ _ _ h => h) (Or.inl ⟨by rfl, ?hy167⟩) (by assumption) ?_
       case hy167 =>
         intro w hSw
         try dsimp only at hSw
         go_simp
         try with_reducible rfl
       clear hop
       try simp only [Act.put, List.setIfInBounds_toArray, List.set_cons_zero, List.set_cons_succ]
       refine heldAtV (i := 7) (oi := ?oi170) ?hi170 (fun hop => ?_)
       case hi170 => first | (simp only [List.getElem?_toArray, List.getElem?_cons_succ, List.getElem?_cons_zero]; exact rfl) | simp only [List.getElem?_toArray, List.getElem?_cons_succ, List.getElem?_cons_zero]
       refine wpAnyH_take (i := 7) (v := ?_) hop (by kernel_rfl) (by kernel_rfl) (by kernel_rfl) (fun _ _ _ h => h) (Or.inl ⟨by rfl, ?hy169⟩) (by assumption) ?_
       case hy169 =>
         intro w hSw
         try dsimp only at hSw
         go_simp
         try with_reducible rfl
       clear hop
       try simp only [Act.put, List.setIfInBounds_toArray, List.set_cons_zero, List.set_cons_succ]
       refine heldAtV (i := 8) (oi := ?oi172) ?hi172 (fun hop => ?_)
       case hi172 => first | (simp only [List.getElem?_toArray, List.getElem?_cons_succ, List.getElem?_cons_zero]; exact rfl) | simp only [List.getElem?_toArray, List.getElem?_cons_succ, List.getElem?_cons_zero]
       refine wpAnyH_take (i := 8) (v := ?_) hop (by kernel_rfl) (by kernel_rfl) (by kernel_rfl) (fun _ _ _ h => h) (Or.inl ⟨by rfl, ?hy171⟩) (by assumption) ?_
       case hy171 =>
         intro w hSw
         try dsimp only at hSw
         go_simp
         try with_reducible rfl
       clear hop
       try simp only [Act.put, List.setIfInBounds_toArray, List.set_cons_zero, List.set_cons_succ]
       refine heldAtV (i := 9) (oi := ?oi174) ?hi174 (fun hop => ?_)
       case hi174 => first | (simp only [List.getElem?_toArray, List.getElem?_cons_succ, List.getElem?_cons_zero]; exact rfl) | simp only [List.getElem?_toArray, List.getElem?_cons_succ, List.getElem?_cons_zero]
       refine wpAnyH_take (i := 9) (v := ?_) hop (by kernel_rfl) (by kernel_rfl) (by kernel_rfl) (fun _ _ _ h => h) (Or.inl ⟨by rfl, ?hy173⟩) (by assumption) ?_
       case hy173 =>
         intro w hSw
         try dsimp only at hSw
         go_simp
         try with_reducible rfl
       clear hop
       try simp only [Act.put, List.setIfInBounds_toArray, List.set_cons_zero, List.set_cons_succ]
       refine heldAtV (i := 10) (oi := ?oi176) ?hi176 (fun hop => ?_)
       case hi176 => first | (simp only [List.getElem?_toArray, List.getElem?_cons_succ, List.getElem?_cons_zero]; exact rfl) | simp only [List.getElem?_toArray, List.getElem?_cons_succ, List.getElem?_cons_zero]
       refine wpAnyH_take (i := 10) (v := ?_) hop (by kernel_rfl) (by kernel_rfl) (by kernel_rfl) (fun _ _ _ h => h) (Or.inl ⟨by rfl, ?hy175⟩) (by assumption) ?_
       case hy175 =>
         intro w hSw
         try dsimp only at hSw
         go_simp
         try with_reducible rfl
       clear hop
       try simp only [Act.put, List.setIfInBounds_toArray, List.set_cons_zero, List.set_cons_succ]
       refine heldAtV (i := 11) (oi := ?oi178) ?hi178 (fun hop => ?_)
       case hi178 => first | (simp only [List.getElem?_toArray, List.getElem?_cons_succ, List.getElem?_cons_zero]; exact rfl) | simp only [List.getElem?_toArray, List.getElem?_cons_succ, List.getElem?_cons_zero]
       refine wpAnyH_take (i := 11) (v := ?_) hop (by kernel_rfl) (by kernel_rfl) (by kernel_rfl) (fun _ _ _ h => h) (Or.inl ⟨by rfl, ?hy177⟩) (by assumption) ?_
       case hy177 =>
         intro w hSw
         try dsimp only at hSw
         go_simp
         try with_reducible rfl
       clear hop
       try simp only [Act.put, List.setIfInBounds_toArray, List.set_cons_zero, List.set_cons_succ]
       refine heldAtV (i := 13) (oi := ?oi180) ?hi180 (fun hop => ?_)
       case hi180 => first | (simp only [List.getElem?_toArray, List.getElem?_cons_succ, List.getElem?_cons_zero]; exact rfl) | simp only [List.getElem?_toArray, List.getElem?_cons_succ, List.getElem?_cons_zero]
       refine wpAnyH_take (i := 13) (v := ?_) hop (by kernel_rfl) (by kernel_rfl) (by kernel_rfl) (fun _ _ _ h => h) (Or.inl ⟨by rfl, ?hy179⟩) (by assumption) ?_
       case hy179 =>
         intro w hSw
         try dsimp only at hSw
         go_simp
         try with_reducible rfl
       clear hop
       try simp only [Act.put, List.setIfInBounds_toArray, List.set_cons_zero, List.set_cons_succ]
       refine heldAtV (i := 14) (oi := ?oi182) ?hi182 (fun hop => ?_)
       case hi182 => first | (simp only [List.getElem?_toArray, List.getElem?_cons_succ, List.getElem?_cons_zero]; exact rfl) | simp only [List.getElem?_toArray, List.getElem?_cons_succ, List.getElem?_cons_zero]
       refine wpAnyH_take (i := 14) (v := ?_) hop (by kernel_rfl) (by kernel_rfl) (by kernel_rfl) (fun _ _ _ h => h) (Or.inl ⟨by rfl, ?hy181⟩) (by assumption) ?_
       case hy181 =>
         intro w hSw
         try dsimp only at hSw
         go_simp
         try with_reducible rfl
       clear hop
       try simp only [Act.put, List.setIfInBounds_toArray, List.set_cons_zero, List.set_cons_succ]
       refine heldAtV (i := 15) (oi := ?oi184) ?hi184 (fun hop => ?_)
       case hi184 => first | (simp only [List.getElem?_toArray, List.getElem?_cons_succ, List.getElem?_cons_zero]; exact rfl) | simp only [List.getElem?_toArray, List.getElem?_cons_succ, List.getElem?_cons_zero]
       refine wpAnyH_take (i := 15) (v := ?_) hop (by kernel_rfl) (by kernel_rfl) (by kernel_rfl) (fun _ _ _ h => h) (Or.inl ⟨by rfl, ?hy183⟩) (by assumption) ?_
       case hy183 =>
         intro w hSw
         try dsimp only at hSw
         go_simp
         try with_reducible rfl
       clear hop
       try simp only [Act.put, List.setIfInBounds_toArray, List.set_cons_zero, List.set_cons_succ]
       refine heldAtV (i := 16) (oi := ?oi186) ?hi186 (fun hop => ?_)
       case hi186 => first | (simp only [List.getElem?_toArray, List.getElem?_cons_succ, List.getElem?_cons_zero]; exact rfl) | simp only [List.getElem?_toArray, List.getElem?_cons_succ, List.getElem?_cons_zero]
       refine wpAnyH_take (i := 16) (v := ?_) hop (by kernel_rfl) (by kernel_rfl) (by kernel_rfl) (fun _ _ _ h => h) (Or.inl ⟨by rfl, ?hy185⟩) (by assumption) ?_
       case hy185 =>
         intro w hSw
         try dsimp only at hSw
         go_simp
         try with_reducible rfl
       clear hop
       try simp only [Act.put, List.setIfInBounds_toArray, List.set_cons_zero, List.set_cons_succ]
       refine heldAtV (i := 12) (oi := ?oi187) ?hi187 (fun hopi => ?_)
       case hi187 => first | (simp only [List.getElem?_toArray, List.getElem?_cons_succ, List.getElem?_cons_zero]; exact rfl) | simp only [List.getElem?_toArray, List.getElem?_cons_succ, List.getElem?_cons_zero]
       refine heldAtV (i := 17) (oi := ?oi188) ?hi188 (fun hopj => ?_)
       case hi188 => first | (simp only [List.getElem?_toArray, List.getElem?_cons_succ, List.getElem?_cons_zero]; exact rfl) | simp only [List.getElem?_toArray, List.getElem?_cons_succ, List.getElem?_cons_zero]
       refine wpAnyH_ready (rs := [12, 17]) (by kernel_rfl) (by simp) ?_
       refine AllReadyH.cons hopi (fun K hK => ?_) (AllReadyH.cons hopj (fun K hK => ?_) AllReadyH.nil)
       · clear hopi hopj
         go_simp
         refine hK.out _ _ ?_ (fun hHeld => ?_)
         · exact HS0.out
         clear hK K
         try simp only [Act.put, List.setIfInBounds_toArray, List.set_cons_zero, List.set_cons_succ]
         refine heldAtV (i := 17) (oi := ?oi153) ?hi153 (fun hop => ?_)
         case hi153 => first | (simp only [List.getElem?_toArray, List.getElem?_cons_succ, List.getElem?_cons_zero]; exact rfl) | simp only [List.getElem?_toArray, List.getElem?_cons_succ, List.getElem?_cons_zero]
         refine wpAnyH_ready (rs := [17]) (by kernel_rfl) (by simp) ?_
         refine AllReadyH.cons hop (fun K hK => ?_) AllReadyH.nil
         clear hop
         go_simp
         refine (KI.out _ _ h7.drew).mono ?_
         rintro e w3 ⟨rfl, h3, k3⟩
         have SA := makeSP7 h3
         obtain ⟨t2, t3, t4, t5⟩ := workRP h3
         rw [hvk] at t2
         rw [hvk2] at t3
         refine hK.out _ _ ?_ (fun hHeld => ?_)
         · exact SA
         clear hK K
         try simp only [Act.put, List.setIfInBounds_toArray, List.set_cons_zero, List.set_cons_succ]
         refine heldAtV (i := 18) (oi := ?oi145) ?hi145 (fun hop => ?_)
         case hi145 => first | (simp only [List.getElem?_toArray, List.getElem?_cons_succ, List.getElem?_cons_zero]; exact rfl) | simp only [List.getElem?_toArray, List.getElem?_cons_succ, List.getElem?_cons_zero]
         refine wpAnyH_ready (rs := [18]) (by kernel_rfl) (by simp) ?_
         refine AllReadyH.cons hop (fun K hK => ?_) AllReadyH.nil
         clear hop
         go_simp
         refine (PK.out _ _ A1 F1 T1 (GK + freshT (delT kord (⟨ou, om, n⟩ : KidD) tK).1) HK.out.wk.rep HK.out.wk.hi HK.out.wk.wf (by have := HK.out.size; omega) HK.out.len (by have := HK.out.g; have := HK.out.kmz; omega) (h3.pull 3)).mono ?_
         rintro e w4 ⟨ok, rt, mv, gv, A3, F3, T3, made, gone, rfl, hE, h4, k4⟩
         have SB := makeSP7 (((h4.pull 5).pull 5).pull 5)
         refine hK.out _ _ ?_ (fun hHeld => ?_)
         · exact SB
         clear hK K
         try simp only [Act.put, List.setIfInBounds_toArray, List.set_cons_zero, List.set_cons_succ]
         refine heldAtV (i := 19) (oi := ?oi147) ?hi147 (fun hop => ?_)
         case hi147 => first | (simp only [List.getElem?_toArray, List.getElem?_cons_succ, List.getElem?_cons_zero]; exact rfl) | simp only [List.getElem?_toArray, List.getElem?_cons_succ, List.getElem?_cons_zero]
         refine wpAnyH_take (i := 19) (v := ?_) hop (by kernel_rfl) (by kernel_rfl) (by kernel_rfl) (fun _ _ _ h => h) (Or.inl ⟨by rfl, ?hy146⟩) (by assumption) ?_
         case hy146 =>
           intro w hSw
           try dsimp only at hSw
           go_simp
           try with_reducible rfl
         clear hop
         try simp only [Act.put, List.setIfInBounds_toArray, List.set_cons_zero, List.set_cons_succ]
         refine heldAtV (i := 20) (oi := ?oi149) ?hi149 (fun hop => ?_)
         case hi149 => first | (simp only [List.getElem?_toArray, List.getElem?_cons_succ, List.getElem?_cons_zero]; exact rfl) | simp only [List.getElem?_toArray, List.getElem?_cons_succ, List.getElem?_cons_zero]
         refine wpAnyH_take (i := 20) (v := ?_) hop (by kernel_rfl) (by kernel_rfl) (by kernel_rfl) (fun _ _ _ h => h) (Or.inl ⟨by rfl, ?hy148⟩) (by assumption) ?_
         case hy148 =>
           intro w hSw
           try dsimp only at hSw
           go_simp
           try with_reducible rfl
         clear hop
         try simp only [Act.put, List.setIfInBounds_toArray, List.set_cons_zero, List.set_cons_succ]
         refine heldAtV (i := 21) (oi := ?oi150) ?hi150 (fun hop => ?_)
         case hi150 => first | (simp only [List.getElem?_toArray, List.getElem?_cons_succ, List.getElem?_cons_zero]; exact rfl) | simp only [List.getElem?_toArray, List.getElem?_cons_succ, List.getElem?_cons_zero]
         refine wpAnyH_ready (rs := [21]) (by kernel_rfl) (by simp) ?_
         refine AllReadyH.cons hop (fun K hK => ?_) AllReadyH.nil
         clear hop
         go_simp
         refine (work_kids_any ok (h4.pull 4) (by have q1 := edr_small hE; have q2 := HK.out.kmz; have q3 := HK.out.size; have q4 := putT_size kord (⟨nu, nm, n⟩ : KidD) true T1; omega) (by have q1 := edr_small hE; have q2 := HK.out.kgz; have q3 := HK.out.size; have q4 := putT_gone kord (⟨nu, nm, n⟩ : KidD) true T1; omega)).mono ?_
         rintro e w5 ⟨rfl, h5, k5⟩
         have SC := makeSP7 (((h5.pull 3).pull 1).pull 3)
         refine hK.out _ _ ?_ (fun hHeld => ?_)
         · exact SC
         clear hK K
         try simp only [Act.put, List.setIfInBounds_toArray, List.set_cons_zero, List.set_cons_succ]
         refine heldAtV (i := 22) (oi := ?oi152) ?hi152 (fun hop => ?_)
         case hi152 => first | (simp only [List.getElem?_toArray, List.getElem?_cons_succ, List.getElem?_cons_zero]; exact rfl) | simp only [List.getElem?_toArray, List.getElem?_cons_succ, List.getElem?_cons_zero]
         refine wpAnyH_take (i := 22) (v := ?_) hop (by kernel_rfl) (by kernel_rfl) (by kernel_rfl) (fun _ _ _ h => h) (Or.inl ⟨by rfl, ?hy151⟩) (by assumption) ?_
         case hy151 =>
           intro w hSw
           try dsimp only at hSw
           go_simp
           try with_reducible rfl
         clear hop
         try simp only [Act.put, List.setIfInBounds_toArray, List.set_cons_zero, List.set_cons_succ]
         refine wpAnyH_done (by kernel_rfl) (NoPanic.normal ?_) _
         go_wp2_with fail
         go_meet
         case rel => exact ⟨ok, rt, A3, F3, T3, made, gone, rfl, hE, h5, ((k6.drew.trans k3).trans k4).trans k5⟩
       · clear hopi hopj
         go_simp
         refine (KI.out _ _ h7.drew).mono ?_
         rintro e w3 ⟨rfl, h3, k3⟩
         have SA := makeSP7 h3
         obtain ⟨t2, t3, t4, t5⟩ := workRP h3
         rw [hvk] at t2
         rw [hvk2] at t3
         refine hK.out _ _ ?_ (fun hHeld => ?_)
         · exact SA
         clear hK K
         try simp only [Act.put, List.setIfInBounds_toArray, List.set_cons_zero, List.set_cons_succ]
         refine heldAtV (i := 12) (oi := ?oi154) ?hi154 (fun hop => ?_)
         case hi154 => first | (simp only [List.getElem?_toArray, List.getElem?_cons_succ, List.getElem?_cons_zero]; exact rfl) | simp only [List.getElem?_toArray, List.getElem?_cons_succ, List.getElem?_cons_zero]
         refine wpAnyH_ready (rs := [12]) (by kernel_rfl) (by simp) ?_
         refine AllReadyH.cons hop (fun K hK => ?_) AllReadyH.nil
         clear hop
         go_simp
         refine hK.out _ _ ?_ (fun hHeld => ?_)
         · exact SA
         clear hK K
         try simp only [Act.put, List.setIfInBounds_toArray, List.set_cons_zero, List.set_cons_succ]
         refine heldAtV (i := 18) (oi := ?oi145) ?hi145 (fun hop => ?_)
         case hi145 => first | (simp only [List.getElem?_toArray, List.getElem?_cons_succ, List.getElem?_cons_zero]; exact rfl) | simp only [List.getElem?_toArray, List.getElem?_cons_succ, List.getElem?_cons_zero]
         refine wpAnyH_ready (rs := [18]) (by kernel_rfl) (by simp) ?_
         refine AllReadyH.cons hop (fun K hK => ?_) AllReadyH.nil
         clear hop
         go_simp
         refine (PK.out _ _ A1 F1 T1 (GK + freshT (delT kord (⟨ou, om, n⟩ : KidD) tK).1) HK.out.wk.rep HK.out.wk.hi HK.out.wk.wf (by have := HK.out.size; omega) HK.out.len (by have := HK.out.g; have := HK.out.kmz; omega) (h3.pull 3)).mono ?_
         rintro e w4 ⟨ok, rt, mv, gv, A3, F3, T3, made, gone, rfl, hE, h4, k4⟩
         have SB := makeSP7 (((h4.pull 5).pull 5).pull 5)
         refine hK.out _ _ ?_ (fun hHeld => ?_)
         · exact SB
         clear hK K
         try simp only [Act.put, List.setIfInBounds_toArray, List.set_cons_zero, List.set_cons_succ]
         refine heldAtV (i := 19) (oi := ?oi147) ?hi147 (fun hop => ?_)
         case hi147 => first | (simp only [List.getElem?_toArray, List.getElem?_cons_succ, List.getElem?_cons_zero]; exact rfl) | simp only [List.getElem?_toArray, List.getElem?_cons_succ, List.getElem?_cons_zero]
         refine wpAnyH_take (i := 19) (v := ?_) hop (by kernel_rfl) (by kernel_rfl) (by kernel_rfl) (fun _ _ _ h => h) (Or.inl ⟨by rfl, ?hy146⟩) (by assumption) ?_
         case hy146 =>
           intro w hSw
           try dsimp only at hSw
           go_simp
           try with_reducible rfl
         clear hop
         try simp only [Act.put, List.setIfInBounds_toArray, List.set_cons_zero, List.set_cons_succ]
         refine heldAtV (i := 20) (oi := ?oi149) ?hi149 (fun hop => ?_)
         case hi149 => first | (simp only [List.getElem?_toArray, List.getElem?_cons_succ, List.getElem?_cons_zero]; exact rfl) | simp only [List.getElem?_toArray, List.getElem?_cons_succ, List.getElem?_cons_zero]
         refine wpAnyH_take (i := 20) (v := ?_) hop (by kernel_rfl) (by kernel_rfl) (by kernel_rfl) (fun _ _ _ h => h) (Or.inl ⟨by rfl, ?hy148⟩) (by assumption) ?_
         case hy148 =>
           intro w hSw
           try dsimp only at hSw
           go_simp
           try with_reducible rfl
         clear hop
         try simp only [Act.put, List.setIfInBounds_toArray, List.set_cons_zero, List.set_cons_succ]
         refine heldAtV (i := 21) (oi := ?oi150) ?hi150 (fun hop => ?_)
         case hi150 => first | (simp only [List.getElem?_toArray, List.getElem?_cons_succ, List.getElem?_cons_zero]; exact rfl) | simp only [List.getElem?_toArray, List.getElem?_cons_succ, List.getElem?_cons_zero]
         refine wpAnyH_ready (rs := [21]) (by kernel_rfl) (by simp) ?_
         refine AllReadyH.cons hop (fun K hK => ?_) AllReadyH.nil
         clear hop
         go_simp
         refine (work_kids_any ok (h4.pull 4) (by have q1 := edr_small hE; have q2 := HK.out.kmz; have q3 := HK.out.size; have q4 := putT_size kord (⟨nu, nm, n⟩ : KidD) true T1; omega) (by have q1 := edr_small hE; have q2 := HK.out.kgz; have q3 := HK.out.size; have q4 := putT_gone kord (⟨nu, nm, n⟩ : KidD) true T1; omega)).mono ?_
         rintro e w5 ⟨rfl, h5, k5⟩
         have SC := makeSP7 (((h5.pull 3).pull 1).pull 3)
         refine hK.out _ _ ?_ (fun hHeld => ?_)
         · exact SC
         clear hK K
         try simp only [Act.put, List.setIfInBounds_toArray, List.set_cons_zero, List.set_cons_succ]
         refine heldAtV (i := 22) (oi := ?oi152) ?hi152 (fun hop => ?_)
         case hi152 => first | (simp only [List.getElem?_toArray, List.getElem?_cons_succ, List.getElem?_cons_zero]; exact rfl) | simp only [List.getElem?_toArray, List.getElem?_cons_succ, List.getElem?_cons_zero]
         refine wpAnyH_take (i := 22) (v := ?_) hop (by kernel_rfl) (by kernel_rfl) (by kernel_rfl) (fun _ _ _ h => h) (Or.inl ⟨by rfl, ?hy151⟩) (by assumption) ?_
         case hy151 =>
           intro w hSw
           try dsimp only at hSw
           go_simp
           try with_reducible rfl
         clear hop
         try simp only [Act.put, List.setIfInBounds_toArray, List.set_cons_zero, List.set_cons_succ]
         refine wpAnyH_done (by kernel_rfl) (NoPanic.normal ?_) _
         go_wp2_with fail
         go_meet
         case rel => exact ⟨ok, rt, A3, F3, T3, made, gone, rfl, hE, h5, ((k6.drew.trans k3).trans k4).trans k5⟩
     case rest =>
       obtain ⟨ok, rt, A3, F3, T3, made, gone, rfl, hE, h6, k6'⟩ := hcut
       clear h7 k6 HS0 a0 a1 a2 x0 x1 x2 x3 x4 x5 x6 r2 r3 r4 r5
       cases ok with
       | false =>
         rcases hE with ⟨hq, _⟩ | ⟨_, hlt, rfl, rfl, rfl, rfl, rfl, rfl⟩
         · cases hq
         have h7 := ((h6.pull 2).tail.pull 2).swap
         have hen := work_end_no_d (u := .returning) (D := D2) h7 HDD.out HK.out.wk.wf HS.out.wk.wf HK.out.wk.got HS.out.wk.got HK.out.wk.nodup HS.out.wk.nodup (by have := HK.out.len; omega) (by have := HS.out.len; omega) (by have := HK.out.kmz; omega) (by have := HS.out.kmz; omega)
         have HEN := Lib.hid hen
         have HSH := Lib.hid (show roomA most AK FK < 2 * (tK.size + 2) ∨ roomA most AS FS < tS.size + 2 from .inl (by have q1 := freshT_size (putT kord (⟨nu, nm, n⟩ : KidD) true T1).1; have q2 := putT_size kord (⟨nu, nm, n⟩ : KidD) true T1; have q3 := HK.out.size; have q4 := HK.out.room; have q5 := HK.out.kmz; omega))
         clear hen h7 hlt
         go_wp2_with fail
         refine leaves_cons (f := 111) (args := #[.pointer (some ⟨W, 0, none⟩)]) (by simp) (by simp [go_sem]) ?_
         refine HEN.out.mono ?_
         rintro e u' w'' ⟨rfl, rfl, AK2, FK2, AS2, FS2, f1, f2, h13, k13⟩
         exact ⟨.tuple #[], results_none rfl _ _ _, rfl, D2, AK2, FK2, AS2, FS2, h13, k6'.trans k13, .inr ⟨HDD.out, HK.out.undone f1 (by omega), HS.out.undone f2 (by omega), HSH.out⟩⟩
       | true =>
         obtain ⟨hrt, hK1⟩ := HK.out.put kord_ord (by decide) hE
         obtain ⟨D1, hD1⟩ : ∃ D1, D1 = kidsD true rt made gone D2 := ⟨_, rfl⟩
         rw [← hD1] at h6
         have e1 : D1.v = { D2.v with ks := rt.s, kg := rt.g } := by rw [hD1]; rfl
         have e2 : D1.km = D2.km ++ made := by rw [hD1]; rfl
         have e3 : D1.kg = D2.kg ++ gone := by rw [hD1]; rfl
         have e4 : D1.sm = D2.sm := by rw [hD1]; rfl
         have e5 : D1.sg = D2.sg := by rw [hD1]; rfl
         have e6 : D1.done = false := by rw [hD1]; exact HDD.out
         rw [← e2, ← e3] at hK1
         have hS1 := HS.out
         rw [← e4, ← e5] at hS1
         have HDV1 := Lib.hid (show D1.v = { v with ks := T3.root.s, kg := T3.root.g } by rw [e1, hrt, HDV.out])
         have hvk' : D1.v.ks = T3.root.s := by rw [HDV1.out]
         have hvk2' : D1.v.kg = T3.root.g := by rw [HDV1.out]
         have hvs' : D1.v.ss = tS.root.s := by rw [e1]; exact hvs
         have hvs2' : D1.v.sg = tS.root.g := by rw [e1]; exact hvs2
         have HK1 := Lib.hid hK1
         have HS1 := Lib.hid hS1
         have HDD1 := Lib.hid e6
         have h7 := ((h6.pull 2).pull 3).push 2
         clear h6 hE hrt hK1 hD1 e1 e2 e3 e4 e5 e6 hS1 hvk hvk2 hvs hvs2
         have hvk := hvk'
         have hvk2 := hvk2'
         have hvs := hvs'
         have hvs2 := hvs2'
         clear hvk' hvk2' hvs' hvs2'
         go_upto_region 6 with (fail)
         have S0 := makeSP7 h7
         have HS0 := Lib.hid S0
         obtain ⟨a0, a1, a2, x0, x1, x2, x3, x4, x5, x6⟩ := S0
         obtain ⟨r2, r3, r4, r5⟩ := workRP h7
         rw [hvk] at r2
         rw [hvk2] at r3
         rw [hvs] at r4
         rw [hvs2] at r5
         refine wp_region_noPanic ?_
         refine wp_region_held_drew (S := (fun w' => w'.cell? ⟨W, 0, none⟩ = some (.pointer (some ⟨s, 0, none⟩)) ∧ w'.cell? ⟨s, 0, none⟩ = some (.pointer (some ⟨mk, 0, none⟩)) ∧ w'.cell? ⟨s, 1, none⟩ = some (.pointer (some ⟨ms, 0, none⟩)) ∧ w'.cell? ⟨X, 0, none⟩ = some (.int .i64 n) ∧ w'.cell? ⟨X, 1, none⟩ = some (.bool true) ∧ w'.cell? ⟨X, 2, none⟩ = some (.int .i64 ou) ∧ w'.cell? ⟨X, 3, none⟩ = some (.string om) ∧ w'.cell? ⟨X, 4, none⟩ = some (.bool true) ∧ w'.cell? ⟨X, 5, none⟩ = some (.int .i64 nu) ∧ w'.cell? ⟨X, 6, none⟩ = some (.string nm))) (by kernel_rfl) ?_ (fun hHeld => ?_)
         · exact HS0.out
         refine heldAtV (i := 0) (oi := ?oi190) ?hi190 (fun hop => ?_)
         case hi190 => first | (simp only [List.getElem?_toArray, List.getElem?_cons_succ, List.getElem?_cons_zero]; exact rfl) | simp only [List.getElem?_toArray, List.getElem?_cons_succ, List.getElem?_cons_zero]
         refine wpAnyH_take (i := 0) (v := ?_) hop (by kernel_rfl) (by kernel_rfl) (by kernel_rfl) (fun _ _ _ h => h) (Or.inl ⟨by rfl, ?hy189⟩) (by assumption) ?_
         case hy189 =>
           intro w hSw
           try dsimp only at hSw
           go_simp
           try with_reducible rfl
         clear hop
         try simp only [Act.put, List.setIfInBounds_toArray, List.set_cons_zero, List.set_cons_succ]
         refine heldAtV (i := 1) (oi := ?oi192) ?hi192 (fun hop => ?_)
         case hi192 => first | (simp only [List.getElem?_toArray, List.getElem?_cons_succ, List.getElem?_cons_zero]; exact rfl) | simp only [List.getElem?_toArray, List.getElem?_cons_succ, List.getElem?_cons_zero]
         refine wpAnyH_take (i := 1) (v := ?_) hop (by kernel_rfl) (by kernel_rfl) (by kernel_rfl) (fun _ _ _ h => h) (Or.inl ⟨by rfl, ?hy191⟩) (by assumption) ?_
         case hy191 =>
           intro w hSw
           try dsimp only at hSw
           go_simp
           try with_reducible rfl
         clear hop
         try simp only [Act.put, List.setIfInBounds_toArray, List.set_cons_zero, List.set_cons_succ]
         refine heldAtV (i := 2) (oi := ?oi194) ?hi194 (fun hop => ?_)
         case hi194 => first | (simp only [List.getElem?_toArray, List.getElem?_cons_succ, List.getElem?_cons_zero]; exact rfl) | simp only [List.getElem?_toArray, List.getElem?_cons_succ, List.getElem?_cons_zero]
         refine wpAnyH_take (i := 2) (v := ?_) hop (by kernel_rfl) (by kernel_rfl) (by kernel_rfl) (fun _ _ _ h => h) (Or.inl ⟨by rfl, ?hy193⟩) (by assumption) ?_
         case hy193 =>
           intro w hSw
           try dsimp only at hSw
           go_simp
           try with_reducible rfl
         clear hop
         try simp only [Act.put, List.setIfInBounds_toArray, List.set_cons_zero, List.set_cons_succ]
         refine heldAtV (i := 3) (oi := ?oi196) ?hi196 (fun hop => ?_)
         case hi196 => first | (simp only [List.getElem?_toArray, List.getElem?_cons_succ, List.getElem?_cons_zero]; exact rfl) | simp only [List.getElem?_toArray, List.getElem?_cons_succ, List.getElem?_cons_zero]
         refine wpAnyH_take (i := 3) (v := ?_) hop (by kernel_rfl) (by kernel_rfl) (by kernel_rfl) (fun _ _ _ h => h) (Or.inl ⟨by rfl, ?hy195⟩) (by assumption) ?_
         case hy195 =>
           intro w hSw
           try dsimp only at hSw
           go_simp
           try with_reducible rfl
         clear hop
         try simp only [Act.put, List.setIfInBounds_toArray, List.set_cons_zero, List.set_cons_succ]
         refine heldAtV (i := 4) (oi := ?oi198) ?hi198 (fun hop => ?_)
         case hi198 => first | (simp only [List.getElem?_toArray, List.getElem?_cons_succ, List.getElem?_cons_zero]; exact rfl) | simp only [List.getElem?_toArray, List.getElem?_cons_succ, List.getElem?_cons_zero]
         refine wpAnyH_take (i := 4) (v := ?_) hop (by kernel_rfl) (by kernel_rfl) (by kernel_rfl) (fun _ _ _ h => h) (Or.inl ⟨by rfl, ?hy197⟩) (by assumption) ?_
         case hy197 =>
           intro w hSw
           try dsimp only at hSw
           go_simp
           try with_reducible rfl
         clear hop
         try simp only [Act.put, List.setIfInBounds_toArray, List.set_cons_zero, List.set_cons_succ]
         refine heldAtV (i := 5) (oi := ?oi200) ?hi200 (fun hop => ?_)
         case hi200 => first | (simp only [List.getElem?_toArray, List.getElem?_cons_succ, List.getElem?_cons_zero]; exact rfl) | simp only [List.getElem?_toArray, List.getElem?_cons_succ, List.getElem?_cons_zero]
         refine wpAnyH_take (i := 5) (v := ?_) hop (by kernel_rfl) (by kernel_rfl) (by kernel_rfl) (fun _ _ _ h => h) (Or.inl ⟨by rfl, ?hy199⟩) (by assumption) ?_
         case hy199 =>
           intro w hSw
           try dsimp only at hSw
           go_simp
           try with_reducible rfl
         clear hop
         try simp only [Act.put, List.setIfInBounds_toArray, List.set_cons_zero, List.set_cons_succ]
         refine heldAtV (i := 6) (oi := ?oi202) ?hi202 (fun hop => ?_)
         case hi202 => first | (simp only [List.getElem?_toArray, List.getElem?_cons_succ, List.getElem?_cons_zero]; exact rfl) | simp only [List.getElem?_toArray, List.getElem?_cons_succ, List.getElem?_cons_zero]
         refine wpAnyH_take (i := 6) (v := ?_) hop (by kernel_rfl) (by kernel_rfl) (by kernel_rfl) (fun _ _ _ h => h) (Or.inl ⟨by rfl, ?hy201⟩) (by assumption) ?_
         case hy201 =>
           intro w hSw
           try dsimp only at hSw
           go_simp
           try with_reducible rfl
         clear hop
         try simp only [Act.put, List.setIfInBounds_toArray, List.set_cons_zero, List.set_cons_succ]
         refine heldAtV (i := 7) (oi := ?oi204) ?hi204 (fun hop => ?_)
         case hi204 => first | (simp only [List.getElem?_toArray, List.getElem?_cons_succ, List.getElem?_cons_zero]; exact rfl) | simp only [List.getElem?_toArray, List.getElem?_cons_succ, List.getElem?_cons_zero]
         refine wpAnyH_take (i := 7) (v := ?_) hop (by kernel_rfl) (by kernel_rfl) (by kernel_rfl) (fun _ _ _ h => h) (Or.inl ⟨by rfl, ?hy203⟩) (by assumption) ?_
         case hy203 =>
           intro w hSw
           try dsimp only at hSw
           go_simp
           try with_reducible rfl
         clear hop
         try simp only [Act.put, List.setIfInBounds_toArray, List.set_cons_zero, List.set_cons_succ]
         refine heldAtV (i := 8) (oi := ?oi206) ?hi206 (fun hop => ?_)
         case hi206 => first | (simp only [List.getElem?_toArray, List.getElem?_cons_succ, List.getElem?_cons_zero]; exact rfl) | simp only [List.getElem?_toArray, List.getElem?_cons_succ, List.getElem?_cons_zero]
         refine wpAnyH_take (i := 8) (v := ?_) hop (by kernel_rfl) (by kernel_rfl) (by kernel_rfl) (fun _ _ _ h => h) (Or.inl ⟨by rfl, ?hy205⟩) (by assumption) ?_
         case hy205 =>
           intro w hSw
           try dsimp only at hSw
           go_simp
           try with_reducible rfl
         clear hop
         try simp only [Act.put, List.setIfInBounds_toArray, List.set_cons_zero, List.set_cons_succ]
         refine heldAtV (i := 9) (oi := ?oi208) ?hi208 (fun hop => ?_)
         case hi208 => first | (simp only [List.getElem?_toArray, List.getElem?_cons_succ, List.getElem?_cons_zero]; exact rfl) | simp only [List.getElem?_toArray, List.getElem?_cons_succ, List.getElem?_cons_zero]
         refine wpAnyH_take (i := 9) (v := ?_) hop (by kernel_rfl) (by kernel_rfl) (by kernel_rfl) (fun _ _ _ h => h) (Or.inl ⟨by rfl, ?hy207⟩) (by assumption) ?_
         case hy207 =>
           intro w hSw
           try dsimp only at hSw
           go_simp
           try with_reducible rfl
         clear hop
         try simp only [Act.put, List.setIfInBounds_toArray, List.set_cons_zero, List.set_cons_succ]
         refine heldAtV (i := 10) (oi := ?oi210) ?hi210 (fun hop => ?_)
         case hi210 => first | (simp only [List.getElem?_toArray, List.getElem?_cons_succ, List.getElem?_cons_zero]; exact rfl) | simp only [List.getElem?_toArray, List.getElem?_cons_succ, List.getElem?_cons_zero]
         refine wpAnyH_take (i := 10) (v := ?_) hop (by kernel_rfl) (by kernel_rfl) (by kernel_rfl) (fun _ _ _ h => h) (Or.inl ⟨by rfl, ?hy209⟩) (by assumption) ?_
         case hy209 =>
           intro w hSw
           try dsimp only at hSw
           go_simp
           try with_reducible rfl
         clear hop
         try simp only [Act.put, List.setIfInBounds_toArray, List.set_cons_zero, List.set_cons_succ]
         refine heldAtV (i := 11) (oi := ?oi212) ?hi212 (fun hop => ?_)
         case hi212 => first | (simp only [List.getElem?_toArray, List.getElem?_cons_succ, List.getElem?_cons_zero]; exact rfl) | simp only [List.getElem?_toArray, List.getElem?_cons_succ, List.getElem?_cons_zero]
         refine wpAnyH_take (i := 11) (v := ?_) hop (by kernel_rfl) (by kernel_rfl) (by kernel_rfl) (fun _ _ _ h => h) (Or.inl ⟨by rfl, ?hy211⟩) (by assumption) ?_
         case hy211 =>
           intro w hSw
           try dsimp only at hSw
           go_simp
           try with_reducible rfl
         clear hop
         try simp only [Act.put, List.setIfInBounds_toArray, List.set_cons_zero, List.set_cons_succ]
         refine heldAtV (i := 12) (oi := ?oi214) ?hi214 (fun hop => ?_)
         case hi214 => first | (simp only [List.getElem?_toArray, List.getElem?_cons_succ, List.getElem?_cons_zero]; exact rfl) | simp only [List.getElem?_toArray, List.getElem?_cons_succ, List.getElem?_cons_zero]
         refine wpAnyH_take (i := 12) (v := ?_) hop (by kernel_rfl) (by kernel_rfl) (by kernel_rfl) (fun _ _ _ h => h) (Or.inl ⟨by rfl, ?hy213⟩) (by assumption) ?_
         case hy213 =>
           intro w hSw
           try dsimp only at hSw
           go_simp
           try with_reducible rfl
         clear hop
         try simp only [Act.put, List.setIfInBounds_toArray, List.set_cons_zero, List.set_cons_succ]
         refine heldAtV (i := 14) (oi := ?oi216) ?hi216 (fun hop => ?_)
         case hi216 => first | (simp only [List.getElem?_toArray, List.getElem?_cons_succ, List.getElem?_cons_zero]; exact rfl) | simp only [List.getElem?_toArray, List.getElem?_cons_succ, List.getElem?_cons_zero]
         refine wpAnyH_take (i := 14) (v := ?_) hop (by kernel_rfl) (by kernel_rfl) (by kernel_rfl) (fun _ _ _ h => h) (Or.inl ⟨by rfl, ?hy215⟩) (by assumption) ?_
         case hy215 =>
           intro w hSw
           try dsimp only at hSw
           go_simp
           try with_reducible rfl
         clear hop
         try simp only [Act.put, List.setIfInBounds_toArray, List.set_cons_zero, List.set_cons_succ]
         refine heldAtV (i := 15) (oi := ?oi218) ?hi218 (fun hop => ?_)
         case hi218 => first | (simp only [List.getElem?_toArray, List.getElem?_cons_succ, List.getElem?_cons_zero]; exact rfl) | simp only [List.getElem?_toArray, List.getElem?_cons_succ, List.getElem?_cons_zero]
         refine wpAnyH_take (i := 15) (v := ?_) hop (by kernel_rfl) (by kernel_rfl) (by kernel_rfl) (fun _ _ _ h => h) (Or.inl ⟨by rfl, ?hy217⟩) (by assumption) ?_
         case hy217 =>
           intro w hSw
           try dsimp only at hSw
           go_simp
           try with_reducible rfl
         clear hop
         try simp only [Act.put, List.setIfInBounds_toArray, List.set_cons_zero, List.set_cons_succ]
         refine heldAtV (i := 16) (oi := ?oi220) ?hi220 (fun hop => ?_)
         case hi220 => first | (simp only [List.getElem?_toArray, List.getElem?_cons_succ, List.getElem?_cons_zero]; exact rfl) | simp only [List.getElem?_toArray, List.getElem?_cons_succ, List.getElem?_cons_zero]
         refine wpAnyH_take (i := 16) (v := ?_) hop (by kernel_rfl) (by kernel_rfl) (by kernel_rfl) (fun _ _ _ h => h) (Or.inl ⟨by rfl, ?hy219⟩) (by assumption) ?_
         case hy219 =>
           intro w hSw
           try dsimp only at hSw
           go_simp
           try with_reducible rfl
         clear hop
         try simp only [Act.put, List.setIfInBounds_toArray, List.set_cons_zero, List.set_cons_succ]
         refine heldAtV (i := 17) (oi := ?oi222) ?hi222 (fun hop => ?_)
         case hi222 => first | (simp only [List.getElem?_toArray, List.getElem?_cons_succ, List.getElem?_cons_zero]; exact rfl) | simp only [List.getElem?_toArray, List.getElem?_cons_succ, List.getElem?_cons_zero]
         refine wpAnyH_take (i := 17) (v := ?_) hop (by kernel_rfl) (by kernel_rfl) (by kernel_rfl) (fun _ _ _ h => h) (Or.inl ⟨by rfl, ?hy221⟩) (by assumption) ?_
         case hy221 =>
           intro w hSw
           try dsimp only at hSw
           go_simp
           try with_reducible rfl
         clear hop
         try simp only [Act.put, List.setIfInBounds_toArray, List.set_cons_zero, List.set_cons_succ]
         refine heldAtV (i := 13) (oi := ?oi223) ?hi223 (fun hop => ?_)
         case hi223 => first | (simp only [List.getElem?_toArray, List.getElem?_cons_succ, List.getElem?_cons_zero]; exact rfl) | simp only [List.getElem?_toArray, List.getElem?_cons_succ, List.getElem?_cons_zero]
         refine wpAnyH_ready (rs := [13]) (by kernel_rfl) (by simp) ?_
         refine AllReadyH.cons hop (fun K hK => ?_) AllReadyH.nil
         clear hop
         go_simp
         refine hK.out _ _ ?_ (fun hHeld => ?_)
         · exact HS0.out
         clear hK K
         try simp only [Act.put, List.setIfInBounds_toArray, List.set_cons_zero, List.set_cons_succ]
         refine heldAtV (i := 18) (oi := ?oi224) ?hi224 (fun hop => ?_)
         case hi224 => first | (simp only [List.getElem?_toArray, List.getElem?_cons_succ, List.getElem?_cons_zero]; exact rfl) | simp only [List.getElem?_toArray, List.getElem?_cons_succ, List.getElem?_cons_zero]
         refine wpAnyH_ready (rs := [18]) (by kernel_rfl) (by simp) ?_
         refine AllReadyH.cons hop (fun K hK => ?_) AllReadyH.nil
         clear hop
         go_simp
         refine (PS.out _ _ (h7.pull 4).drew).mono ?_
         rintro e w4 ⟨ok, rt, mv, gv, A2, F2, T2, made, gone, rfl, hE, h8, k8⟩
         have SB := makeSP7 (((h8.pull 5).pull 5).pull 5)
         refine hK.out _ _ ?_ (fun hHeld => ?_)
         · exact SB
         clear hK K
         try simp only [Act.put, List.setIfInBounds_toArray, List.set_cons_zero, List.set_cons_succ]
         refine heldAtV (i := 19) (oi := ?oi226) ?hi226 (fun hop => ?_)
         case hi226 => first | (simp only [List.getElem?_toArray, List.getElem?_cons_succ, List.getElem?_cons_zero]; exact rfl) | simp only [List.getElem?_toArray, List.getElem?_cons_succ, List.getElem?_cons_zero]
         refine wpAnyH_take (i := 19) (v := ?_) hop (by kernel_rfl) (by kernel_rfl) (by kernel_rfl) (fun _ _ _ h => h) (Or.inl ⟨by rfl, ?hy225⟩) (by assumption) ?_
         case hy225 =>
           intro w hSw
           try dsimp only at hSw
           go_simp
           try with_reducible rfl
         clear hop
         try simp only [Act.put, List.setIfInBounds_toArray, List.set_cons_zero, List.set_cons_succ]
         refine heldAtV (i := 20) (oi := ?oi228) ?hi228 (fun hop => ?_)
         case hi228 => first | (simp only [List.getElem?_toArray, List.getElem?_cons_succ, List.getElem?_cons_zero]; exact rfl) | simp only [List.getElem?_toArray, List.getElem?_cons_succ, List.getElem?_cons_zero]
         refine wpAnyH_take (i := 20) (v := ?_) hop (by kernel_rfl) (by kernel_rfl) (by kernel_rfl) (fun _ _ _ h => h) (Or.inl ⟨by rfl, ?hy227⟩) (by assumption) ?_
         case hy227 =>
           intro w hSw
           try dsimp only at hSw
           go_simp
           try with_reducible rfl
         clear hop
         try simp only [Act.put, List.setIfInBounds_toArray, List.set_cons_zero, List.set_cons_succ]
         refine heldAtV (i := 21) (oi := ?oi229) ?hi229 (fun hop => ?_)
         case hi229 => first | (simp only [List.getElem?_toArray, List.getElem?_cons_succ, List.getElem?_cons_zero]; exact rfl) | simp only [List.getElem?_toArray, List.getElem?_cons_succ, List.getElem?_cons_zero]
         refine wpAnyH_ready (rs := [21]) (by kernel_rfl) (by simp) ?_
         refine AllReadyH.cons hop (fun K hK => ?_) AllReadyH.nil
         clear hop
         go_simp
         refine (work_spots_any ok (h8.pull 4) (by have q1 := edr_small hE; have q2 := HS1.out.kmz; have q3 := HS1.out.size; have q4 := putT_size cmpI n (⟨true, nu, nm⟩ : SpD) tS; omega) (by have q1 := edr_small hE; have q2 := HS1.out.kgz; have q3 := HS1.out.size; have q4 := putT_gone cmpI n (⟨true, nu, nm⟩ : SpD) tS; omega)).mono ?_
         rintro e w5 ⟨rfl, h9, k9⟩
         have SC := makeSP7 (((h9.pull 3).pull 1).pull 3)
         obtain ⟨k1, k2, k3, k4, h10⟩ := workP_E h9
         have e10 := h10.cell 10
         have ef10 := h10.free 10
         simp [workC] at e10
         have hWl := h10.lt
         have h11 := workP_I (D := { spotsD ok rt made gone D1 with done := ok }) (h10.set 10 (.bool ok))
         have SD := makeSP7 (((h11.pull 3).pull 1).pull 3)
         refine hK.out _ _ ?_ (fun hHeld => ?_)
         · exact SC
         clear hK K
         try simp only [Act.put, List.setIfInBounds_toArray, List.set_cons_zero, List.set_cons_succ]
         refine heldAtV (i := 22) (oi := ?oi231) ?hi231 (fun hop => ?_)
         case hi231 => first | (simp only [List.getElem?_toArray, List.getElem?_cons_succ, List.getElem?_cons_zero]; exact rfl) | simp only [List.getElem?_toArray, List.getElem?_cons_succ, List.getElem?_cons_zero]
         refine wpAnyH_take (i := 22) (v := ?_) hop (by kernel_rfl) (by kernel_rfl) (by kernel_rfl) (fun _ _ _ h => h) (Or.inl ⟨by rfl, ?hy230⟩) (by assumption) ?_
         case hy230 =>
           intro w hSw
           try dsimp only at hSw
           go_simp
           try with_reducible rfl
         clear hop
         try simp only [Act.put, List.setIfInBounds_toArray, List.set_cons_zero, List.set_cons_succ]
         refine heldAtV (i := 23) (oi := ?oi233) ?hi233 (fun hop => ?_)
         case hi233 => first | (simp only [List.getElem?_toArray, List.getElem?_cons_succ, List.getElem?_cons_zero]; exact rfl) | simp only [List.getElem?_toArray, List.getElem?_cons_succ, List.getElem?_cons_zero]
         refine wpAnyH_take (i := 23) (v := ?_) hop (by kernel_rfl) (by kernel_rfl) (by kernel_rfl) (fun _ _ _ h => h) (Or.inl ⟨by rfl, ?hy232⟩) (by assumption) ?_
         case hy232 =>
           intro w hSw
           try dsimp only at hSw
           go_simp
           try with_reducible rfl
         clear hop
         try simp only [Act.put, List.setIfInBounds_toArray, List.set_cons_zero, List.set_cons_succ]
         refine heldAtV (i := 24) (oi := ?oi234) ?hi234 (fun hop => ?_)
         case hi234 => first | (simp only [List.getElem?_toArray, List.getElem?_cons_succ, List.getElem?_cons_zero]; exact rfl) | simp only [List.getElem?_toArray, List.getElem?_cons_succ, List.getElem?_cons_zero]
         refine wpAnyH_ready (rs := [24]) (by kernel_rfl) (by simp) ?_
         refine AllReadyH.cons hop (fun K hK => ?_) AllReadyH.nil
         clear hop
         go_simp
         refine hK.out _ _ ?_ (fun hHeld => ?_)
         · exact SD
         clear hK K
         try simp only [Act.put, List.setIfInBounds_toArray, List.set_cons_zero, List.set_cons_succ]
         refine wpAnyH_done (by kernel_rfl) (NoPanic.normal ?_) _
         all_goals
           have k11 := (((k6'.drew.trans k8).trans k9).setCell ⟨W, 10, none⟩ (.bool ok))
           have h12 := ((h11.pull 2).tail.pull 1).push 3
           cases ok with
           | true =>
             obtain ⟨hrt, hS2⟩ := HS1.out.put cmpI_ord (by decide) hE
             have hdv : ({ spotsD true rt made gone D1 with done := true } : WorkD).v = { v with ks := T3.root.s, kg := T3.root.g, ss := T2.root.s, sg := T2.root.g } := by show ({ D1.v with ss := rt.s, sg := rt.g } : VerD) = _; rw [hrt, HDV1.out]
             have hen := work_end_d (u := .returning) (D := { spotsD true rt made gone D1 with done := true }) h12 rfl HK1.out.wk.wf hS2.wk.wf HK1.out.wk.got hS2.wk.got HK1.out.wk.nodup hS2.wk.nodup (by have := HK1.out.len; omega) (by have := hS2.len; omega) (by have := HK1.out.kmz; show D1.km.length ≤ 1000000; omega) (by have := HK1.out.kgz; show D1.kg.length ≤ 1000000; omega) (by have := hS2.kmz; show (D1.sm ++ made).length ≤ 1000000; omega) (by have := hS2.kgz; show (D1.sg ++ gone).length ≤ 1000000; omega)
             have HEN := Lib.hid hen
             have HS2 := Lib.hid hS2
             have HDV2 := Lib.hid hdv
             clear hen h12 hS2 hdv hE h8 h9 h10 h11 SB SC SD e10 ef10
             go_wp2_with fail
             refine leaves_cons (f := 111) (args := #[.pointer (some ⟨W, 0, none⟩)]) (by simp) (by simp [go_sem]) ?_
             refine HEN.out.mono ?_
             rintro e u' w'' ⟨rfl, rfl, AK2, FK2, AS2, FS2, f1, f2, h13, k13⟩
             exact ⟨.tuple #[], results_none rfl _ _ _, rfl, _, AK2, FK2, AS2, FS2, h13, k11.trans k13, .inl ⟨T3, T2, rfl, HDV2.out, HK1.out.done kord_ord HOK.out.1.rep HOK.out.1.srt f1, HS2.out.done cmpI_ord HOK.out.2.rep HOK.out.2.srt f2⟩⟩
           | false =>
             rcases hE with ⟨hq, _⟩ | ⟨_, hlt, rfl, rfl, rfl, rfl, rfl, rfl⟩
             · cases hq
             have hen := work_end_no_d (u := .returning) (D := { spotsD false Hd.nil [] [] D1 with done := false }) h12 rfl HK1.out.wk.wf HS1.out.wk.wf HK1.out.wk.got HS1.out.wk.got HK1.out.wk.nodup HS1.out.wk.nodup (by have := HK1.out.len; omega) (by have := HS1.out.len; omega) (by have := HK1.out.kmz; show D1.km.length ≤ 1000000; omega) (by have := HS1.out.kmz; show D1.sm.length ≤ 1000000; omega)
             have HEN := Lib.hid hen
             have HSH := Lib.hid (show roomA most AK FK < 2 * (tK.size + 2) ∨ roomA most AS FS < tS.size + 2 from .inr (by have q1 := freshT_size (putT cmpI n (⟨true, nu, nm⟩ : SpD) tS).1; have q4 := putT_size cmpI n (⟨true, nu, nm⟩ : SpD) tS; omega))
             clear hen h12 hlt h8 h9 h10 h11 SB SC SD e10 ef10
             go_wp2_with fail
             refine leaves_cons (f := 111) (args := #[.pointer (some ⟨W, 0, none⟩)]) (by simp) (by simp [go_sem]) ?_
             refine HEN.out.mono ?_
             rintro e u' w'' ⟨rfl, rfl, AK2, FK2, AS2, FS2, f1, f2, h13, k13⟩
             exact ⟨.tuple #[], results_none rfl _ _ _, rfl, _, AK2, FK2, AS2, FS2, h13, k11.trans k13, .inr ⟨rfl, HK1.out.undone f1 (by omega), HS1.out.undone f2 (by omega), HSH.out⟩⟩
end Go.Proofs.YtddglbjhhnipgaaGreatDoor

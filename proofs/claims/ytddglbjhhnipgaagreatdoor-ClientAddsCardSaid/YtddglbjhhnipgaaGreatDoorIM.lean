import Derived.Test.YtddglbjhhnipgaaGreatDoorIL
namespace Go.Proofs.YtddglbjhhnipgaaGreatDoor
open Go Go.RowKit
set_option linter.unusedVariables false
set_option linter.unusedSimpArgs false
set_option maxRecDepth 100000
set_option maxHeartbeats 8000000
/-! ### all edits that a change asks for -/
def chC (n : Int) (old new : SpD) : Array Value := #[.int .i64 n, .bool old.inn, .int .i64 old.up, .string old.nm, .bool new.inn, .int .i64 new.up, .string new.nm]
def stoC (mk ms : Nat) : Array Value := #[.pointer (some ⟨mk, 0, none⟩), .pointer (some ⟨ms, 0, none⟩)]
/-- What an insertion comes to, in memory. -/
def MakeQ (W s mk ms : Nat) (n nu : Int) (nm : ByteArray) (v : VerD) (most : Int) (AK : List SlotK) (FK : List Int) (AS : List SlotS) (FS : List Int) (GK GS : Nat) (tK : HTK) (tS : HTS) (l : List HProp) (w w' : World) : Prop :=
 ∃ (AK1 : List SlotK) (FK1 : List Int) (TK : HTK) (nK : List Hd) (AS1 : List SlotS) (FS1 : List Int) (TS : HTS) (nS : List Hd) (AK2 : List SlotK) (FK2 : List Int) (AS2 : List SlotS) (FS2 : List Int),
   Laid most AK FK GK (putT kord ⟨nu, nm, n⟩ true tK).1 AK1 FK1 TK nK ∧ Laid most AS FS GS (putT cmpI n ⟨true, nu, nm⟩ tS).1 AS1 FS1 TS nS ∧
   FreesA most AK1 FK1 (GK + freshT (putT kord ⟨nu, nm, n⟩ true tK).1) (bothH ([] ++ nK) ([] ++ (putT kord ⟨nu, nm, n⟩ true tK).2)) AK2 FK2 ∧ FreesA most AS1 FS1 (GS + freshT (putT cmpI n ⟨true, nu, nm⟩ tS).1) (bothH ([] ++ nS) ([] ++ (putT cmpI n ⟨true, nu, nm⟩ tS).2)) AS2 FS2 ∧
   Sat w' (workP W s (endD ⟨{ v with ks := TK.root.s, kg := TK.root.g, ss := TS.root.s, sg := TS.root.g }, [] ++ nK, [] ++ (putT kord ⟨nu, nm, n⟩ true tK).2, [] ++ nS, [] ++ (putT cmpI n ⟨true, nu, nm⟩ tS).2, true⟩) :: own s (.cells (stoC mk ms) 80 (0, 0)) :: mapK mk most AK2 FK2 :: mapS ms most AS2 FS2 :: l) ∧ Kp w w'
theorem heldAtV {P : Program} {md : Region.Mode} {ops : Array Oper} {Q : Exit → Act → World → Prop} {S : World → Prop} {fuel : Nat} {listed : Array Bool} {a : Act} {w : World} {i : Nat} {oi : Oper} (hi : ops[i]? = some oi) (h : ops[i]? = some oi → wpAnyH P md ops Q S fuel listed a w) : wpAnyH P md ops Q S fuel listed a w := h hi
theorem makeSP {w : World} {l : List HProp} {W s X mk ms : Nat} {n ou nu : Int} {om nm : ByteArray} {D : WorkD} {tx ts : TypeId} (hs : Sat w (own X (.cells #[.int .i64 n, .bool false, .int .i64 ou, .string om, .bool true, .int .i64 nu, .string nm] tx (0, 0)) :: workP W s D :: own s (.cells (stoC mk ms) ts (0, 0)) :: l)) :
   w.cell? ⟨W, 0, none⟩ = some (.pointer (some ⟨s, 0, none⟩)) ∧ w.cell? ⟨s, 0, none⟩ = some (.pointer (some ⟨mk, 0, none⟩)) ∧ w.cell? ⟨s, 1, none⟩ = some (.pointer (some ⟨ms, 0, none⟩)) ∧ w.cell? ⟨X, 0, none⟩ = some (.int .i64 n) ∧ w.cell? ⟨X, 4, none⟩ = some (.bool true) ∧ w.cell? ⟨X, 5, none⟩ = some (.int .i64 nu) ∧ w.cell? ⟨X, 6, none⟩ = some (.string nm) := by
 obtain ⟨k1, k2, k3, k4, h⟩ := workP_E (hs.pull 1)
 exact ⟨h.cell 0, (h.pull 6).cell 0, (h.pull 6).cell 1, hs.cell 0, hs.cell 4, hs.cell 5, hs.cell 6⟩
theorem workRP {w : World} {l : List HProp} {W s : Nat} {D : WorkD} {A : HProp} (hs : Sat w (A :: workP W s D :: l)) : w.cell? ⟨W, 2, none⟩ = some (.int .i64 D.v.ks) ∧ w.cell? ⟨W, 3, none⟩ = some (.int .i64 D.v.kg) ∧ w.cell? ⟨W, 4, none⟩ = some (.int .i64 D.v.ss) ∧ w.cell? ⟨W, 5, none⟩ = some (.int .i64 D.v.sg) := by
 obtain ⟨k1, k2, k3, k4, h⟩ := workP_E (hs.pull 1)
 exact ⟨h.cell 2, h.cell 3, h.cell 4, h.cell 5⟩
theorem work_make_put {w : World} {l : List HProp} {W s mk ms : Nat} {n ou nu : Int} {om nm : ByteArray} {v : VerD} {most : Int} {AK : List SlotK} {FK : List Int} {AS : List SlotS} {FS : List Int} {GK GS : Nat} {tK : HTK} {tS : HTS}
   (hs : Sat w (workP W s ⟨v, [], [], [], [], false⟩ :: own s (.cells (stoC mk ms) 80 (0, 0)) :: mapK mk most AK FK :: mapS ms most AS FS :: l))
   (hvk : v.ks = tK.root.s) (hvk2 : v.kg = tK.root.g) (hvs : v.ss = tS.root.s) (hvs2 : v.sg = tS.root.g)
   (hRK : RepO AK tK) (hRS : RepO AS tS) (hHK : HiOk tK) (hHS : HiOk tS) (hWK : WfA AK FK GK) (hWS : WfA AS FS GS) (zK : tK.size < 50000) (zS : tS.size < 50000)
   (hm0 : 0 ≤ most) (hm1 : most ≤ 1000000) (lK : (AK.length : Int) ≤ most) (lS : (AS.length : Int) ≤ most) (gK : GK + 200000 < 1000000000000) (gS : GS + 200000 < 1000000000000) (rK : (tK.size + 1 : Int) ≤ roomA most AK FK) (rS : (tS.size + 1 : Int) ≤ roomA most AS FS) :
   Calls Tryz.prog 85 #[.pointer (some ⟨W, 0, none⟩), .agg #[.int .i64 n, .bool false, .int .i64 ou, .string om, .bool true, .int .i64 nu, .string nm]] w fun e w' => e = .returned (.tuple #[]) ∧ MakeQ W s mk ms n nu nm v most AK FK AS FS GK GS tK tS l w w' := by
 have ki := fun (W' : World) (l' : List HProp) (hW' : Sat W' l') => view_kid n ⟨true, nu, nm⟩ hW'
 have pk := fun (W' : World) (l' : List HProp) (hW' : Sat W' (mapK mk most AK FK :: l')) => mapK_put kord_ok ⟨nu, nm, n⟩ true hW' hRK hHK hWK (by omega) hm0 hm1 lK gK rK
 have ps := fun (W' : World) (l' : List HProp) (hW' : Sat W' (mapS ms most AS FS :: l')) => mapS_put cmpI_ok n ⟨true, nu, nm⟩ hW' hRS hHS hWS (by omega) hm0 hm1 lS gS rS
 unfold aggSp at ki
 dsimp only at ki pk ps
 have KI := Lib.hid ki
 have PK := Lib.hid pk
 have PS := Lib.hid ps
 have hB := hs.alloc (.cells #[.int .i64 n, .bool false, .int .i64 ou, .string om, .bool true, .int .i64 nu, .string nm] 101)
 have kB := (Kp.refl w).alloc (.cells #[.int .i64 n, .bool false, .int .i64 ou, .string om, .bool true, .int .i64 nu, .string nm] 101)
 clear ki pk ps hs
 go_enter_defers Tryz.func85, Tryz.ntmps85
 go_upto_region 1 with (fail)
 generalize World.alloc _ _ = w1 at hB kB ⊢
 generalize w.heap.size = X at hB ⊢
 have x1 := (hB).cell 1
 have x4 := (hB).cell 4
 simp at x1 x4
 go_upto_region 2 with (fail)
 go_quiet (fail)
 have h2 := hB.drewN nq
 have k2 := kB.drewN nq
 generalize w1.drewN nq = w2 at h2 k2 ⊢
 clear hB kB x1
 have x4 := h2.cell 4
 simp at x4
 go_upto_region 5 with (fail)
 clear x4
 have S0 := makeSP h2
 have HS0 := Lib.hid S0
 obtain ⟨a0, a1, a2, a3, a4, a5, a6⟩ := S0
 obtain ⟨r2, r3, r4, r5⟩ := workRP h2
 dsimp only at r2 r3 r4 r5
 have hln1 := fun (A' : List SlotK) (F' : List Int) (T' : HTK) (news : List Hd) (hL : Laid most AK FK GK (putT kord ⟨nu, nm, n⟩ true tK).1 A' F' T' news) => (by have a := hL.len; have b := freshT_size (putT kord ⟨nu, nm, n⟩ true tK).1; have c := putT_size kord ⟨nu, nm, n⟩ true tK; omega : news.length ≤ 60000)
 have hln2 := (by have := putT_gone kord ⟨nu, nm, n⟩ true tK; omega : (putT kord ⟨nu, nm, n⟩ true tK).2.length ≤ 60000)
 have HL1 := Lib.hid hln1
 have HL2 := Lib.hid hln2
 clear hln1 hln2
 go_cut [81] from 59 to 81 (fun bv wx => ∃ (AK1 : List SlotK) (FK1 : List Int) (TK : HTK) (nK : List Hd), bv = .bool false ∧ Laid most AK FK GK (putT kord ⟨nu, nm, n⟩ true tK).1 AK1 FK1 TK nK ∧ Sat wx (workP W s ⟨{ v with ks := TK.root.s, kg := TK.root.g }, [] ++ nK, [] ++ (putT kord ⟨nu, nm, n⟩ true tK).2, [], [], false⟩ :: mapK mk most AK1 FK1 :: own X (.cells #[.int .i64 n, .bool false, .int .i64 ou, .string om, .bool true, .int .i64 nu, .string nm] 101 (0, 0)) :: own s (.cells (stoC mk ms) 80 (0, 0)) :: mapS ms most AS FS :: l) ∧ Kp w wx)
 case first =>
   refine wp_region_noPanic ?_
   refine wp_region_held_drew (S := (fun w' => w'.cell? ⟨W, 0, none⟩ = some (.pointer (some ⟨s, 0, none⟩)) ∧ w'.cell? ⟨s, 0, none⟩ = some (.pointer (some ⟨mk, 0, none⟩)) ∧ w'.cell? ⟨s, 1, none⟩ = some (.pointer (some ⟨ms, 0, none⟩)) ∧ w'.cell? ⟨X, 0, none⟩ = some (.int .i64 n) ∧ w'.cell? ⟨X, 4, none⟩ = some (.bool true) ∧ w'.cell? ⟨X, 5, none⟩ = some (.int .i64 nu) ∧ w'.cell? ⟨X, 6, none⟩ = some (.string nm))) (by kernel_rfl) ?_ (fun hHeld => ?_)
   · exact HS0.out
   refine heldAtV (i := 0) (oi := ?oi12) ?hi12 (fun hop => ?_)
   case hi12 => first | (simp only [List.getElem?_toArray, List.getElem?_cons_succ, List.getElem?_cons_zero]; exact rfl) | simp only [List.getElem?_toArray, List.getElem?_cons_succ, List.getElem?_cons_zero]
   refine wpAnyH_take (i := 0) (v := ?_) hop (by kernel_rfl) (by kernel_rfl) (by kernel_rfl) (fun _ _ _ h => h) (Or.inl ⟨by rfl, ?hy11⟩) (by assumption) ?_
   case hy11 =>
     intro w hSw
     try dsimp only at hSw
     go_simp
     try with_reducible rfl
   clear hop
   try simp only [Act.put, List.setIfInBounds_toArray, List.set_cons_zero, List.set_cons_succ]
   refine heldAtV (i := 1) (oi := ?oi14) ?hi14 (fun hop => ?_)
   case hi14 => first | (simp only [List.getElem?_toArray, List.getElem?_cons_succ, List.getElem?_cons_zero]; exact rfl) | simp only [List.getElem?_toArray, List.getElem?_cons_succ, List.getElem?_cons_zero]
   refine wpAnyH_take (i := 1) (v := ?_) hop (by kernel_rfl) (by kernel_rfl) (by kernel_rfl) (fun _ _ _ h => h) (Or.inl ⟨by rfl, ?hy13⟩) (by assumption) ?_
   case hy13 =>
     intro w hSw
     try dsimp only at hSw
     go_simp
     try with_reducible rfl
   clear hop
   try simp only [Act.put, List.setIfInBounds_toArray, List.set_cons_zero, List.set_cons_succ]
   refine heldAtV (i := 2) (oi := ?oi16) ?hi16 (fun hop => ?_)
   case hi16 => first | (simp only [List.getElem?_toArray, List.getElem?_cons_succ, List.getElem?_cons_zero]; exact rfl) | simp only [List.getElem?_toArray, List.getElem?_cons_succ, List.getElem?_cons_zero]
   refine wpAnyH_take (i := 2) (v := ?_) hop (by kernel_rfl) (by kernel_rfl) (by kernel_rfl) (fun _ _ _ h => h) (Or.inl ⟨by rfl, ?hy15⟩) (by assumption) ?_
   case hy15 =>
     intro w hSw
     try dsimp only at hSw
     go_simp
     try with_reducible rfl
   clear hop
   try simp only [Act.put, List.setIfInBounds_toArray, List.set_cons_zero, List.set_cons_succ]
   refine heldAtV (i := 3) (oi := ?oi18) ?hi18 (fun hop => ?_)
   case hi18 => first | (simp only [List.getElem?_toArray, List.getElem?_cons_succ, List.getElem?_cons_zero]; exact rfl) | simp only [List.getElem?_toArray, List.getElem?_cons_succ, List.getElem?_cons_zero]
   refine wpAnyH_take (i := 3) (v := ?_) hop (by kernel_rfl) (by kernel_rfl) (by kernel_rfl) (fun _ _ _ h => h) (Or.inl ⟨by rfl, ?hy17⟩) (by assumption) ?_
   case hy17 =>
     intro w hSw
     try dsimp only at hSw
     go_simp
     try with_reducible rfl
   clear hop
   try simp only [Act.put, List.setIfInBounds_toArray, List.set_cons_zero, List.set_cons_succ]
   refine heldAtV (i := 4) (oi := ?oi20) ?hi20 (fun hop => ?_)
   case hi20 => first | (simp only [List.getElem?_toArray, List.getElem?_cons_succ, List.getElem?_cons_zero]; exact rfl) | simp only [List.getElem?_toArray, List.getElem?_cons_succ, List.getElem?_cons_zero]
   refine wpAnyH_take (i := 4) (v := ?_) hop (by kernel_rfl) (by kernel_rfl) (by kernel_rfl) (fun _ _ _ h => h) (Or.inl ⟨by rfl, ?hy19⟩) (by assumption) ?_
   case hy19 =>
     intro w hSw
     try dsimp only at hSw
     go_simp
     try with_reducible rfl
   clear hop
   try simp only [Act.put, List.setIfInBounds_toArray, List.set_cons_zero, List.set_cons_succ]
   refine heldAtV (i := 5) (oi := ?oi22) ?hi22 (fun hop => ?_)
   case hi22 => first | (simp only [List.getElem?_toArray, List.getElem?_cons_succ, List.getElem?_cons_zero]; exact rfl) | simp only [List.getElem?_toArray, List.getElem?_cons_succ, List.getElem?_cons_zero]
   refine wpAnyH_take (i := 5) (v := ?_) hop (by kernel_rfl) (by kernel_rfl) (by kernel_rfl) (fun _ _ _ h => h) (Or.inl ⟨by rfl, ?hy21⟩) (by assumption) ?_
   case hy21 =>
     intro w hSw
     try dsimp only at hSw
     go_simp
     try with_reducible rfl
   clear hop
   try simp only [Act.put, List.setIfInBounds_toArray, List.set_cons_zero, List.set_cons_succ]
   refine heldAtV (i := 6) (oi := ?oi24) ?hi24 (fun hop => ?_)
   case hi24 => first | (simp only [List.getElem?_toArray, List.getElem?_cons_succ, List.getElem?_cons_zero]; exact rfl) | simp only [List.getElem?_toArray, List.getElem?_cons_succ, List.getElem?_cons_zero]
   refine wpAnyH_take (i := 6) (v := ?_) hop (by kernel_rfl) (by kernel_rfl) (by kernel_rfl) (fun _ _ _ h => h) (Or.inl ⟨by rfl, ?hy23⟩) (by assumption) ?_
   case hy23 =>
     intro w hSw
     try dsimp only at hSw
     go_simp
     try with_reducible rfl
   clear hop
   try simp only [Act.put, List.setIfInBounds_toArray, List.set_cons_zero, List.set_cons_succ]
   refine heldAtV (i := 7) (oi := ?oi26) ?hi26 (fun hop => ?_)
   case hi26 => first | (simp only [List.getElem?_toArray, List.getElem?_cons_succ, List.getElem?_cons_zero]; exact rfl) | simp only [List.getElem?_toArray, List.getElem?_cons_succ, List.getElem?_cons_zero]
   refine wpAnyH_take (i := 7) (v := ?_) hop (by kernel_rfl) (by kernel_rfl) (by kernel_rfl) (fun _ _ _ h => h) (Or.inl ⟨by rfl, ?hy25⟩) (by assumption) ?_
   case hy25 =>
     intro w hSw
     try dsimp only at hSw
     go_simp
     try with_reducible rfl
   clear hop
   try simp only [Act.put, List.setIfInBounds_toArray, List.set_cons_zero, List.set_cons_succ]
   refine heldAtV (i := 8) (oi := ?oi28) ?hi28 (fun hop => ?_)
   case hi28 => first | (simp only [List.getElem?_toArray, List.getElem?_cons_succ, List.getElem?_cons_zero]; exact rfl) | simp only [List.getElem?_toArray, List.getElem?_cons_succ, List.getElem?_cons_zero]
   refine wpAnyH_take (i := 8) (v := ?_) hop (by kernel_rfl) (by kernel_rfl) (by kernel_rfl) (fun _ _ _ h => h) (Or.inl ⟨by rfl, ?hy27⟩) (by assumption) ?_
   case hy27 =>
     intro w hSw
     try dsimp only at hSw
     go_simp
     try with_reducible rfl
   clear hop
   try simp only [Act.put, List.setIfInBounds_toArray, List.set_cons_zero, List.set_cons_succ]
   refine heldAtV (i := 9) (oi := ?oi30) ?hi30 (fun hop => ?_)
   case hi30 => first | (simp only [List.getElem?_toArray, List.getElem?_cons_succ, List.getElem?_cons_zero]; exact rfl) | simp only [List.getElem?_toArray, List.getElem?_cons_succ, List.getElem?_cons_zero]
   refine wpAnyH_take (i := 9) (v := ?_) hop (by kernel_rfl) (by kernel_rfl) (by kernel_rfl) (fun _ _ _ h => h) (Or.inl ⟨by rfl, ?hy29⟩) (by assumption) ?_
   case hy29 =>
     intro w hSw
     try dsimp only at hSw
     go_simp
     try with_reducible rfl
   clear hop
   try simp only [Act.put, List.setIfInBounds_toArray, List.set_cons_zero, List.set_cons_succ]
   refine heldAtV (i := 10) (oi := ?oi32) ?hi32 (fun hop => ?_)
   case hi32 => first | (simp only [List.getElem?_toArray, List.getElem?_cons_succ, List.getElem?_cons_zero]; exact rfl) | simp only [List.getElem?_toArray, List.getElem?_cons_succ, List.getElem?_cons_zero]
   refine wpAnyH_take (i := 10) (v := ?_) hop (by kernel_rfl) (by kernel_rfl) (by kernel_rfl) (fun _ _ _ h => h) (Or.inl ⟨by rfl, ?hy31⟩) (by assumption) ?_
   case hy31 =>
     intro w hSw
     try dsimp only at hSw
     go_simp
     try with_reducible rfl
   clear hop
   try simp only [Act.put, List.setIfInBounds_toArray, List.set_cons_zero, List.set_cons_succ]
   refine heldAtV (i := 11) (oi := ?oi34) ?hi34 (fun hop => ?_)
   case hi34 => first | (simp only [List.getElem?_toArray, List.getElem?_cons_succ, List.getElem?_cons_zero]; exact rfl) | simp only [List.getElem?_toArray, List.getElem?_cons_succ, List.getElem?_cons_zero]
   refine wpAnyH_take (i := 11) (v := ?_) hop (by kernel_rfl) (by kernel_rfl) (by kernel_rfl) (fun _ _ _ h => h) (Or.inl ⟨by rfl, ?hy33⟩) (by assumption) ?_
   case hy33 =>
     intro w hSw
     try dsimp only at hSw
     go_simp
     try with_reducible rfl
   clear hop
   try simp only [Act.put, List.setIfInBounds_toArray, List.set_cons_zero, List.set_cons_succ]
   refine heldAtV (i := 13) (oi := ?oi36) ?hi36 (fun hop => ?_)
   case hi36 => first | (simp only [List.getElem?_toArray, List.getElem?_cons_succ, List.getElem?_cons_zero]; exact rfl) | simp only [List.getElem?_toArray, List.getElem?_cons_succ, List.getElem?_cons_zero]
   refine wpAnyH_take (i := 13) (v := ?_) hop (by kernel_rfl) (by kernel_rfl) (by kernel_rfl) (fun _ _ _ h => h) (Or.inl ⟨by rfl, ?hy35⟩) (by assumption) ?_
   case hy35 =>
     intro w hSw
     try dsimp only at hSw
     go_simp
     try with_reducible rfl
   clear hop
   try simp only [Act.put, List.setIfInBounds_toArray, List.set_cons_zero, List.set_cons_succ]
   refine heldAtV (i := 14) (oi := ?oi38) ?hi38 (fun hop => ?_)
   case hi38 => first | (simp only [List.getElem?_toArray, List.getElem?_cons_succ, List.getElem?_cons_zero]; exact rfl) | simp only [List.getElem?_toArray, List.getElem?_cons_succ, List.getElem?_cons_zero]
   refine wpAnyH_take (i := 14) (v := ?_) hop (by kernel_rfl) (by kernel_rfl) (by kernel_rfl) (fun _ _ _ h => h) (Or.inl ⟨by rfl, ?hy37⟩) (by assumption) ?_
   case hy37 =>
     intro w hSw
     try dsimp only at hSw
     go_simp
     try with_reducible rfl
   clear hop
   try simp only [Act.put, List.setIfInBounds_toArray, List.set_cons_zero, List.set_cons_succ]
   refine heldAtV (i := 15) (oi := ?oi40) ?hi40 (fun hop => ?_)
   case hi40 => first | (simp only [List.getElem?_toArray, List.getElem?_cons_succ, List.getElem?_cons_zero]; exact rfl) | simp only [List.getElem?_toArray, List.getElem?_cons_succ, List.getElem?_cons_zero]
   refine wpAnyH_take (i := 15) (v := ?_) hop (by kernel_rfl) (by kernel_rfl) (by kernel_rfl) (fun _ _ _ h => h) (Or.inl ⟨by rfl, ?hy39⟩) (by assumption) ?_
   case hy39 =>
     intro w hSw
     try dsimp only at hSw
     go_simp
     try with_reducible rfl
   clear hop
   try simp only [Act.put, List.setIfInBounds_toArray, List.set_cons_zero, List.set_cons_succ]
   refine heldAtV (i := 16) (oi := ?oi42) ?hi42 (fun hop => ?_)
   case hi42 => first | (simp only [List.getElem?_toArray, List.getElem?_cons_succ, List.getElem?_cons_zero]; exact rfl) | simp only [List.getElem?_toArray, List.getElem?_cons_succ, List.getElem?_cons_zero]
   refine wpAnyH_take (i := 16) (v := ?_) hop (by kernel_rfl) (by kernel_rfl) (by kernel_rfl) (fun _ _ _ h => h) (Or.inl ⟨by rfl, ?hy41⟩) (by assumption) ?_
   case hy41 =>
     intro w hSw
     try dsimp only at hSw
     go_simp
     try with_reducible rfl
   clear hop
   try simp only [Act.put, List.setIfInBounds_toArray, List.set_cons_zero, List.set_cons_succ]
   refine heldAtV (i := 12) (oi := ?oi43) ?hi43 (fun hopi => ?_)
   case hi43 => first | (simp only [List.getElem?_toArray, List.getElem?_cons_succ, List.getElem?_cons_zero]; exact rfl) | simp only [List.getElem?_toArray, List.getElem?_cons_succ, List.getElem?_cons_zero]
   refine heldAtV (i := 17) (oi := ?oi44) ?hi44 (fun hopj => ?_)
   case hi44 => first | (simp only [List.getElem?_toArray, List.getElem?_cons_succ, List.getElem?_cons_zero]; exact rfl) | simp only [List.getElem?_toArray, List.getElem?_cons_succ, List.getElem?_cons_zero]
   refine wpAnyH_ready (rs := [12, 17]) (by kernel_rfl) (by simp) ?_
   refine AllReadyH.cons hopi (fun K hK => ?_) (AllReadyH.cons hopj (fun K hK => ?_) AllReadyH.nil)
   · clear hopi hopj
     go_simp
     refine hK.out _ _ ?_ (fun hHeld => ?_)
     · exact HS0.out
     clear hK K
     try simp only [Act.put, List.setIfInBounds_toArray, List.set_cons_zero, List.set_cons_succ]
     refine heldAtV (i := 17) (oi := ?oi9) ?hi9 (fun hop => ?_)
     case hi9 => first | (simp only [List.getElem?_toArray, List.getElem?_cons_succ, List.getElem?_cons_zero]; exact rfl) | simp only [List.getElem?_toArray, List.getElem?_cons_succ, List.getElem?_cons_zero]
     refine wpAnyH_ready (rs := [17]) (by kernel_rfl) (by simp) ?_
     refine AllReadyH.cons hop (fun K hK => ?_) AllReadyH.nil
     clear hop
     go_simp
     refine (KI.out _ _ h2.drew).mono ?_
     rintro e w3 ⟨rfl, h3, k3⟩
     have SA := makeSP h3
     obtain ⟨t2, t3, t4, t5⟩ := workRP h3
     dsimp only at t2 t3 t4 t5
     refine hK.out _ _ ?_ (fun hHeld => ?_)
     · exact SA
     clear hK K
     try simp only [Act.put, List.setIfInBounds_toArray, List.set_cons_zero, List.set_cons_succ]
     refine heldAtV (i := 18) (oi := ?oi1) ?hi1 (fun hop => ?_)
     case hi1 => first | (simp only [List.getElem?_toArray, List.getElem?_cons_succ, List.getElem?_cons_zero]; exact rfl) | simp only [List.getElem?_toArray, List.getElem?_cons_succ, List.getElem?_cons_zero]
     refine wpAnyH_ready (rs := [18]) (by kernel_rfl) (by simp) ?_
     refine AllReadyH.cons hop (fun K hK => ?_) AllReadyH.nil
     clear hop
     go_simp
     refine (PK.out _ _ (h3.pull 3)).mono ?_
     rintro e w4 ⟨mv, gv, AK1, FK1, TK, nK, rfl, hLK, h4, k4⟩
     have SB := makeSP (((h4.pull 5).pull 5).pull 5)
     refine hK.out _ _ ?_ (fun hHeld => ?_)
     · exact SB
     clear hK K
     try simp only [Act.put, List.setIfInBounds_toArray, List.set_cons_zero, List.set_cons_succ]
     refine heldAtV (i := 19) (oi := ?oi3) ?hi3 (fun hop => ?_)
     case hi3 => first | (simp only [List.getElem?_toArray, List.getElem?_cons_succ, List.getElem?_cons_zero]; exact rfl) | simp only [List.getElem?_toArray, List.getElem?_cons_succ, List.getElem?_cons_zero]
     refine wpAnyH_take (i := 19) (v := ?_) hop (by kernel_rfl) (by kernel_rfl) (by kernel_rfl) (fun _ _ _ h => h) (Or.inl ⟨by rfl, ?hy2⟩) (by assumption) ?_
     case hy2 =>
       intro w hSw
       try dsimp only at hSw
       go_simp
       try with_reducible rfl
     clear hop
     try simp only [Act.put, List.setIfInBounds_toArray, List.set_cons_zero, List.set_cons_succ]
     refine heldAtV (i := 20) (oi := ?oi5) ?hi5 (fun hop => ?_)
     case hi5 => first | (simp only [List.getElem?_toArray, List.getElem?_cons_succ, List.getElem?_cons_zero]; exact rfl) | simp only [List.getElem?_toArray, List.getElem?_cons_succ, List.getElem?_cons_zero]
     refine wpAnyH_take (i := 20) (v := ?_) hop (by kernel_rfl) (by kernel_rfl) (by kernel_rfl) (fun _ _ _ h => h) (Or.inl ⟨by rfl, ?hy4⟩) (by assumption) ?_
     case hy4 =>
       intro w hSw
       try dsimp only at hSw
       go_simp
       try with_reducible rfl
     clear hop
     try simp only [Act.put, List.setIfInBounds_toArray, List.set_cons_zero, List.set_cons_succ]
     refine heldAtV (i := 21) (oi := ?oi6) ?hi6 (fun hop => ?_)
     case hi6 => first | (simp only [List.getElem?_toArray, List.getElem?_cons_succ, List.getElem?_cons_zero]; exact rfl) | simp only [List.getElem?_toArray, List.getElem?_cons_succ, List.getElem?_cons_zero]
     refine wpAnyH_ready (rs := [21]) (by kernel_rfl) (by simp) ?_
     refine AllReadyH.cons hop (fun K hK => ?_) AllReadyH.nil
     clear hop
     go_simp
     refine (work_kids (h4.pull 4) (by have := HL1.out _ _ _ _ hLK; simp only [List.length_nil]; omega) (by have := HL2.out; simp only [List.length_nil]; omega)).mono ?_
     rintro e w5 ⟨rfl, h5, k5⟩
     have SC := makeSP (((h5.pull 3).pull 1).pull 3)
     refine hK.out _ _ ?_ (fun hHeld => ?_)
     · exact SC
     clear hK K
     try simp only [Act.put, List.setIfInBounds_toArray, List.set_cons_zero, List.set_cons_succ]
     refine heldAtV (i := 22) (oi := ?oi8) ?hi8 (fun hop => ?_)
     case hi8 => first | (simp only [List.getElem?_toArray, List.getElem?_cons_succ, List.getElem?_cons_zero]; exact rfl) | simp only [List.getElem?_toArray, List.getElem?_cons_succ, List.getElem?_cons_zero]
     refine wpAnyH_take (i := 22) (v := ?_) hop (by kernel_rfl) (by kernel_rfl) (by kernel_rfl) (fun _ _ _ h => h) (Or.inl ⟨by rfl, ?hy7⟩) (by assumption) ?_
     case hy7 =>
       intro w hSw
       try dsimp only at hSw
       go_simp
       try with_reducible rfl
     clear hop
     try simp only [Act.put, List.setIfInBounds_toArray, List.set_cons_zero, List.set_cons_succ]
     refine wpAnyH_done (by kernel_rfl) (NoPanic.normal ?_) _
     go_wp2_with fail
     go_meet
     case rel => exact ⟨AK1, FK1, TK, nK, rfl, hLK, h5, ((k2.drew.trans k3).trans k4).trans k5⟩
   · clear hopi hopj
     go_simp
     refine (KI.out _ _ h2.drew).mono ?_
     rintro e w3 ⟨rfl, h3, k3⟩
     have SA := makeSP h3
     obtain ⟨t2, t3, t4, t5⟩ := workRP h3
     dsimp only at t2 t3 t4 t5
     refine hK.out _ _ ?_ (fun hHeld => ?_)
     · exact SA
     clear hK K
     try simp only [Act.put, List.setIfInBounds_toArray, List.set_cons_zero, List.set_cons_succ]
     refine heldAtV (i := 12) (oi := ?oi10) ?hi10 (fun hop => ?_)
     case hi10 => first | (simp only [List.getElem?_toArray, List.getElem?_cons_succ, List.getElem?_cons_zero]; exact rfl) | simp only [List.getElem?_toArray, List.getElem?_cons_succ, List.getElem?_cons_zero]
     refine wpAnyH_ready (rs := [12]) (by kernel_rfl) (by simp) ?_
     refine AllReadyH.cons hop (fun K hK => ?_) AllReadyH.nil
     clear hop
     go_simp
     refine hK.out _ _ ?_ (fun hHeld => ?_)
     · exact SA
     clear hK K
     try simp only [Act.put, List.setIfInBounds_toArray, List.set_cons_zero, List.set_cons_succ]
     refine heldAtV (i := 18) (oi := ?oi1) ?hi1 (fun hop => ?_)
     case hi1 => first | (simp only [List.getElem?_toArray, List.getElem?_cons_succ, List.getElem?_cons_zero]; exact rfl) | simp only [List.getElem?_toArray, List.getElem?_cons_succ, List.getElem?_cons_zero]
     refine wpAnyH_ready (rs := [18]) (by kernel_rfl) (by simp) ?_
     refine AllReadyH.cons hop (fun K hK => ?_) AllReadyH.nil
     clear hop
     go_simp
     refine (PK.out _ _ (h3.pull 3)).mono ?_
     rintro e w4 ⟨mv, gv, AK1, FK1, TK, nK, rfl, hLK, h4, k4⟩
     have SB := makeSP (((h4.pull 5).pull 5).pull 5)
     refine hK.out _ _ ?_ (fun hHeld => ?_)
     · exact SB
     clear hK K
     try simp only [Act.put, List.setIfInBounds_toArray, List.set_cons_zero, List.set_cons_succ]
     refine heldAtV (i := 19) (oi := ?oi3) ?hi3 (fun hop => ?_)
     case hi3 => first | (simp only [List.getElem?_toArray, List.getElem?_cons_succ, List.getElem?_cons_zero]; exact rfl) | simp only [List.getElem?_toArray, List.getElem?_cons_succ, List.getElem?_cons_zero]
     refine wpAnyH_take (i := 19) (v := ?_) hop (by kernel_rfl) (by kernel_rfl) (by kernel_rfl) (fun _ _ _ h => h) (Or.inl ⟨by rfl, ?hy2⟩) (by assumption) ?_
     case hy2 =>
       intro w hSw
       try dsimp only at hSw
       go_simp
       try with_reducible rfl
     clear hop
     try simp only [Act.put, List.setIfInBounds_toArray, List.set_cons_zero, List.set_cons_succ]
     refine heldAtV (i := 20) (oi := ?oi5) ?hi5 (fun hop => ?_)
     case hi5 => first | (simp only [List.getElem?_toArray, List.getElem?_cons_succ, List.getElem?_cons_zero]; exact rfl) | simp only [List.getElem?_toArray, List.getElem?_cons_succ, List.getElem?_cons_zero]
     refine wpAnyH_take (i := 20) (v := ?_) hop (by kernel_rfl) (by kernel_rfl) (by kernel_rfl) (fun _ _ _ h => h) (Or.inl ⟨by rfl, ?hy4⟩) (by assumption) ?_
     case hy4 =>
       intro w hSw
       try dsimp only at hSw
       go_simp
       try with_reducible rfl
     clear hop
     try simp only [Act.put, List.setIfInBounds_toArray, List.set_cons_zero, List.set_cons_succ]
     refine heldAtV (i := 21) (oi := ?oi6) ?hi6 (fun hop => ?_)
     case hi6 => first | (simp only [List.getElem?_toArray, List.getElem?_cons_succ, List.getElem?_cons_zero]; exact rfl) | simp only [List.getElem?_toArray, List.getElem?_cons_succ, List.getElem?_cons_zero]
     refine wpAnyH_ready (rs := [21]) (by kernel_rfl) (by simp) ?_
     refine AllReadyH.cons hop (fun K hK => ?_) AllReadyH.nil
     clear hop
     go_simp
     refine (work_kids (h4.pull 4) (by have := HL1.out _ _ _ _ hLK; simp only [List.length_nil]; omega) (by have := HL2.out; simp only [List.length_nil]; omega)).mono ?_
     rintro e w5 ⟨rfl, h5, k5⟩
     have SC := makeSP (((h5.pull 3).pull 1).pull 3)
     refine hK.out _ _ ?_ (fun hHeld => ?_)
     · exact SC
     clear hK K
     try simp only [Act.put, List.setIfInBounds_toArray, List.set_cons_zero, List.set_cons_succ]
     refine heldAtV (i := 22) (oi := ?oi8) ?hi8 (fun hop => ?_)
     case hi8 => first | (simp only [List.getElem?_toArray, List.getElem?_cons_succ, List.getElem?_cons_zero]; exact rfl) | simp only [List.getElem?_toArray, List.getElem?_cons_succ, List.getElem?_cons_zero]
     refine wpAnyH_take (i := 22) (v := ?_) hop (by kernel_rfl) (by kernel_rfl) (by kernel_rfl) (fun _ _ _ h => h) (Or.inl ⟨by rfl, ?hy7⟩) (by assumption) ?_
     case hy7 =>
       intro w hSw
       try dsimp only at hSw
       go_simp
       try with_reducible rfl
     clear hop
     try simp only [Act.put, List.setIfInBounds_toArray, List.set_cons_zero, List.set_cons_succ]
     refine wpAnyH_done (by kernel_rfl) (NoPanic.normal ?_) _
     go_wp2_with fail
     go_meet
     case rel => exact ⟨AK1, FK1, TK, nK, rfl, hLK, h5, ((k2.drew.trans k3).trans k4).trans k5⟩
 case rest =>
   obtain ⟨AK1, FK1, TK, nK, rfl, hLK, h6, k6⟩ := hcut
   clear h2 k2 HS0 a0 a1 a2 a3 a4 a5 a6 r2 r3 r4 r5 PK KI
   have h7 := ((h6.pull 2).pull 3).push 2
   have HLK := Lib.hid hLK
   clear hLK h6
   go_upto_region 6 with (fail)
   have S0 := makeSP h7
   have HS0 := Lib.hid S0
   obtain ⟨a0, a1, a2, a3, a4, a5, a6⟩ := S0
   obtain ⟨r2, r3, r4, r5⟩ := workRP h7
   dsimp only at r2 r3 r4 r5
   have hln3 := fun (A' : List SlotS) (F' : List Int) (T' : HTS) (news : List Hd) (hL : Laid most AS FS GS (putT cmpI n ⟨true, nu, nm⟩ tS).1 A' F' T' news) => (by have a := hL.len; have b := freshT_size (putT cmpI n ⟨true, nu, nm⟩ tS).1; have c := putT_size cmpI n (⟨true, nu, nm⟩ : SpD) tS; omega : news.length ≤ 60000)
   have hln4 := (by have := putT_gone cmpI n (⟨true, nu, nm⟩ : SpD) tS; omega : (putT cmpI n ⟨true, nu, nm⟩ tS).2.length ≤ 60000)
   have HL3 := Lib.hid hln3
   have HL4 := Lib.hid hln4
   clear hln3 hln4
   refine wp_region_noPanic ?_
   refine wp_region_held_drew (S := (fun w' => w'.cell? ⟨W, 0, none⟩ = some (.pointer (some ⟨s, 0, none⟩)) ∧ w'.cell? ⟨s, 0, none⟩ = some (.pointer (some ⟨mk, 0, none⟩)) ∧ w'.cell? ⟨s, 1, none⟩ = some (.pointer (some ⟨ms, 0, none⟩)) ∧ w'.cell? ⟨X, 0, none⟩ = some (.int .i64 n) ∧ w'.cell? ⟨X, 4, none⟩ = some (.bool true) ∧ w'.cell? ⟨X, 5, none⟩ = some (.int .i64 nu) ∧ w'.cell? ⟨X, 6, none⟩ = some (.string nm))) (by kernel_rfl) ?_ (fun hHeld => ?_)
   · exact HS0.out
   refine heldAtV (i := 0) (oi := ?oi46) ?hi46 (fun hop => ?_)
   case hi46 => first | (simp only [List.getElem?_toArray, List.getElem?_cons_succ, List.getElem?_cons_zero]; exact rfl) | simp only [List.getElem?_toArray, List.getElem?_cons_succ, List.getElem?_cons_zero]
   refine wpAnyH_take (i := 0) (v := ?_) hop (by kernel_rfl) (by kernel_rfl) (by kernel_rfl) (fun _ _ _ h => h) (Or.inl ⟨by rfl, ?hy45⟩) (by assumption) ?_
   case hy45 =>
     intro w hSw
     try dsimp only at hSw
     go_simp
     try with_reducible rfl
   clear hop
   try simp only [Act.put, List.setIfInBounds_toArray, List.set_cons_zero, List.set_cons_succ]
   refine heldAtV (i := 1) (oi := ?oi48) ?hi48 (fun hop => ?_)
   case hi48 => first | (simp only [List.getElem?_toArray, List.getElem?_cons_succ, List.getElem?_cons_zero]; exact rfl) | simp only [List.getElem?_toArray, List.getElem?_cons_succ, List.getElem?_cons_zero]
   refine wpAnyH_take (i := 1) (v := ?_) hop (by kernel_rfl) (by kernel_rfl) (by kernel_rfl) (fun _ _ _ h => h) (Or.inl ⟨by rfl, ?hy47⟩) (by assumption) ?_
   case hy47 =>
     intro w hSw
     try dsimp only at hSw
     go_simp
     try with_reducible rfl
   clear hop
   try simp only [Act.put, List.setIfInBounds_toArray, List.set_cons_zero, List.set_cons_succ]
   refine heldAtV (i := 2) (oi := ?oi50) ?hi50 (fun hop => ?_)
   case hi50 => first | (simp only [List.getElem?_toArray, List.getElem?_cons_succ, List.getElem?_cons_zero]; exact rfl) | simp only [List.getElem?_toArray, List.getElem?_cons_succ, List.getElem?_cons_zero]
   refine wpAnyH_take (i := 2) (v := ?_) hop (by kernel_rfl) (by kernel_rfl) (by kernel_rfl) (fun _ _ _ h => h) (Or.inl ⟨by rfl, ?hy49⟩) (by assumption) ?_
   case hy49 =>
     intro w hSw
     try dsimp only at hSw
     go_simp
     try with_reducible rfl
   clear hop
   try simp only [Act.put, List.setIfInBounds_toArray, List.set_cons_zero, List.set_cons_succ]
   refine heldAtV (i := 3) (oi := ?oi52) ?hi52 (fun hop => ?_)
   case hi52 => first | (simp only [List.getElem?_toArray, List.getElem?_cons_succ, List.getElem?_cons_zero]; exact rfl) | simp only [List.getElem?_toArray, List.getElem?_cons_succ, List.getElem?_cons_zero]
   refine wpAnyH_take (i := 3) (v := ?_) hop (by kernel_rfl) (by kernel_rfl) (by kernel_rfl) (fun _ _ _ h => h) (Or.inl ⟨by rfl, ?hy51⟩) (by assumption) ?_
   case hy51 =>
     intro w hSw
     try dsimp only at hSw
     go_simp
     try with_reducible rfl
   clear hop
   try simp only [Act.put, List.setIfInBounds_toArray, List.set_cons_zero, List.set_cons_succ]
   refine heldAtV (i := 4) (oi := ?oi54) ?hi54 (fun hop => ?_)
   case hi54 => first | (simp only [List.getElem?_toArray, List.getElem?_cons_succ, List.getElem?_cons_zero]; exact rfl) | simp only [List.getElem?_toArray, List.getElem?_cons_succ, List.getElem?_cons_zero]
   refine wpAnyH_take (i := 4) (v := ?_) hop (by kernel_rfl) (by kernel_rfl) (by kernel_rfl) (fun _ _ _ h => h) (Or.inl ⟨by rfl, ?hy53⟩) (by assumption) ?_
   case hy53 =>
     intro w hSw
     try dsimp only at hSw
     go_simp
     try with_reducible rfl
   clear hop
   try simp only [Act.put, List.setIfInBounds_toArray, List.set_cons_zero, List.set_cons_succ]
   refine heldAtV (i := 5) (oi := ?oi56) ?hi56 (fun hop => ?_)
   case hi56 => first | (simp only [List.getElem?_toArray, List.getElem?_cons_succ, List.getElem?_cons_zero]; exact rfl) | simp only [List.getElem?_toArray, List.getElem?_cons_succ, List.getElem?_cons_zero]
   refine wpAnyH_take (i := 5) (v := ?_) hop (by kernel_rfl) (by kernel_rfl) (by kernel_rfl) (fun _ _ _ h => h) (Or.inl ⟨by rfl, ?hy55⟩) (by assumption) ?_
   case hy55 =>
     intro w hSw
     try dsimp only at hSw
     go_simp
     try with_reducible rfl
   clear hop
   try simp only [Act.put, List.setIfInBounds_toArray, List.set_cons_zero, List.set_cons_succ]
   refine heldAtV (i := 6) (oi := ?oi58) ?hi58 (fun hop => ?_)
   case hi58 => first | (simp only [List.getElem?_toArray, List.getElem?_cons_succ, List.getElem?_cons_zero]; exact rfl) | simp only [List.getElem?_toArray, List.getElem?_cons_succ, List.getElem?_cons_zero]
   refine wpAnyH_take (i := 6) (v := ?_) hop (by kernel_rfl) (by kernel_rfl) (by kernel_rfl) (fun _ _ _ h => h) (Or.inl ⟨by rfl, ?hy57⟩) (by assumption) ?_
   case hy57 =>
     intro w hSw
     try dsimp only at hSw
     go_simp
     try with_reducible rfl
   clear hop
   try simp only [Act.put, List.setIfInBounds_toArray, List.set_cons_zero, List.set_cons_succ]
   refine heldAtV (i := 7) (oi := ?oi60) ?hi60 (fun hop => ?_)
   case hi60 => first | (simp only [List.getElem?_toArray, List.getElem?_cons_succ, List.getElem?_cons_zero]; exact rfl) | simp only [List.getElem?_toArray, List.getElem?_cons_succ, List.getElem?_cons_zero]
   refine wpAnyH_take (i := 7) (v := ?_) hop (by kernel_rfl) (by kernel_rfl) (by kernel_rfl) (fun _ _ _ h => h) (Or.inl ⟨by rfl, ?hy59⟩) (by assumption) ?_
   case hy59 =>
     intro w hSw
     try dsimp only at hSw
     go_simp
     try with_reducible rfl
   clear hop
   try simp only [Act.put, List.setIfInBounds_toArray, List.set_cons_zero, List.set_cons_succ]
   refine heldAtV (i := 8) (oi := ?oi62) ?hi62 (fun hop => ?_)
   case hi62 => first | (simp only [List.getElem?_toArray, List.getElem?_cons_succ, List.getElem?_cons_zero]; exact rfl) | simp only [List.getElem?_toArray, List.getElem?_cons_succ, List.getElem?_cons_zero]
   refine wpAnyH_take (i := 8) (v := ?_) hop (by kernel_rfl) (by kernel_rfl) (by kernel_rfl) (fun _ _ _ h => h) (Or.inl ⟨by rfl, ?hy61⟩) (by assumption) ?_
   case hy61 =>
     intro w hSw
     try dsimp only at hSw
     go_simp
     try with_reducible rfl
   clear hop
   try simp only [Act.put, List.setIfInBounds_toArray, List.set_cons_zero, List.set_cons_succ]
   refine heldAtV (i := 9) (oi := ?oi64) ?hi64 (fun hop => ?_)
   case hi64 => first | (simp only [List.getElem?_toArray, List.getElem?_cons_succ, List.getElem?_cons_zero]; exact rfl) | simp only [List.getElem?_toArray, List.getElem?_cons_succ, List.getElem?_cons_zero]
   refine wpAnyH_take (i := 9) (v := ?_) hop (by kernel_rfl) (by kernel_rfl) (by kernel_rfl) (fun _ _ _ h => h) (Or.inl ⟨by rfl, ?hy63⟩) (by assumption) ?_
   case hy63 =>
     intro w hSw
     try dsimp only at hSw
     go_simp
     try with_reducible rfl
   clear hop
   try simp only [Act.put, List.setIfInBounds_toArray, List.set_cons_zero, List.set_cons_succ]
   refine heldAtV (i := 10) (oi := ?oi66) ?hi66 (fun hop => ?_)
   case hi66 => first | (simp only [List.getElem?_toArray, List.getElem?_cons_succ, List.getElem?_cons_zero]; exact rfl) | simp only [List.getElem?_toArray, List.getElem?_cons_succ, List.getElem?_cons_zero]
   refine wpAnyH_take (i := 10) (v := ?_) hop (by kernel_rfl) (by kernel_rfl) (by kernel_rfl) (fun _ _ _ h => h) (Or.inl ⟨by rfl, ?hy65⟩) (by assumption) ?_
   case hy65 =>
     intro w hSw
     try dsimp only at hSw
     go_simp
     try with_reducible rfl
   clear hop
   try simp only [Act.put, List.setIfInBounds_toArray, List.set_cons_zero, List.set_cons_succ]
   refine heldAtV (i := 11) (oi := ?oi68) ?hi68 (fun hop => ?_)
   case hi68 => first | (simp only [List.getElem?_toArray, List.getElem?_cons_succ, List.getElem?_cons_zero]; exact rfl) | simp only [List.getElem?_toArray, List.getElem?_cons_succ, List.getElem?_cons_zero]
   refine wpAnyH_take (i := 11) (v := ?_) hop (by kernel_rfl) (by kernel_rfl) (by kernel_rfl) (fun _ _ _ h => h) (Or.inl ⟨by rfl, ?hy67⟩) (by assumption) ?_
   case hy67 =>
     intro w hSw
     try dsimp only at hSw
     go_simp
     try with_reducible rfl
   clear hop
   try simp only [Act.put, List.setIfInBounds_toArray, List.set_cons_zero, List.set_cons_succ]
   refine heldAtV (i := 12) (oi := ?oi70) ?hi70 (fun hop => ?_)
   case hi70 => first | (simp only [List.getElem?_toArray, List.getElem?_cons_succ, List.getElem?_cons_zero]; exact rfl) | simp only [List.getElem?_toArray, List.getElem?_cons_succ, List.getElem?_cons_zero]
   refine wpAnyH_take (i := 12) (v := ?_) hop (by kernel_rfl) (by kernel_rfl) (by kernel_rfl) (fun _ _ _ h => h) (Or.inl ⟨by rfl, ?hy69⟩) (by assumption) ?_
   case hy69 =>
     intro w hSw
     try dsimp only at hSw
     go_simp
     try with_reducible rfl
   clear hop
   try simp only [Act.put, List.setIfInBounds_toArray, List.set_cons_zero, List.set_cons_succ]
   refine heldAtV (i := 14) (oi := ?oi72) ?hi72 (fun hop => ?_)
   case hi72 => first | (simp only [List.getElem?_toArray, List.getElem?_cons_succ, List.getElem?_cons_zero]; exact rfl) | simp only [List.getElem?_toArray, List.getElem?_cons_succ, List.getElem?_cons_zero]
   refine wpAnyH_take (i := 14) (v := ?_) hop (by kernel_rfl) (by kernel_rfl) (by kernel_rfl) (fun _ _ _ h => h) (Or.inl ⟨by rfl, ?hy71⟩) (by assumption) ?_
   case hy71 =>
     intro w hSw
     try dsimp only at hSw
     go_simp
     try with_reducible rfl
   clear hop
   try simp only [Act.put, List.setIfInBounds_toArray, List.set_cons_zero, List.set_cons_succ]
   refine heldAtV (i := 15) (oi := ?oi74) ?hi74 (fun hop => ?_)
   case hi74 => first | (simp only [List.getElem?_toArray, List.getElem?_cons_succ, List.getElem?_cons_zero]; exact rfl) | simp only [List.getElem?_toArray, List.getElem?_cons_succ, List.getElem?_cons_zero]
   refine wpAnyH_take (i := 15) (v := ?_) hop (by kernel_rfl) (by kernel_rfl) (by kernel_rfl) (fun _ _ _ h => h) (Or.inl ⟨by rfl, ?hy73⟩) (by assumption) ?_
   case hy73 =>
     intro w hSw
     try dsimp only at hSw
     go_simp
     try with_reducible rfl
   clear hop
   try simp only [Act.put, List.setIfInBounds_toArray, List.set_cons_zero, List.set_cons_succ]
   refine heldAtV (i := 16) (oi := ?oi76) ?hi76 (fun hop => ?_)
   case hi76 => first | (simp only [List.getElem?_toArray, List.getElem?_cons_succ, List.getElem?_cons_zero]; exact rfl) | simp only [List.getElem?_toArray, List.getElem?_cons_succ, List.getElem?_cons_zero]
   refine wpAnyH_take (i := 16) (v := ?_) hop (by kernel_rfl) (by kernel_rfl) (by kernel_rfl) (fun _ _ _ h => h) (Or.inl ⟨by rfl, ?hy75⟩) (by assumption) ?_
   case hy75 =>
     intro w hSw
     try dsimp only at hSw
     go_simp
     try with_reducible rfl
   clear hop
   try simp only [Act.put, List.setIfInBounds_toArray, List.set_cons_zero, List.set_cons_succ]
   refine heldAtV (i := 17) (oi := ?oi78) ?hi78 (fun hop => ?_)
   case hi78 => first | (simp only [List.getElem?_toArray, List.getElem?_cons_succ, List.getElem?_cons_zero]; exact rfl) | simp only [List.getElem?_toArray, List.getElem?_cons_succ, List.getElem?_cons_zero]
   refine wpAnyH_take (i := 17) (v := ?_) hop (by kernel_rfl) (by kernel_rfl) (by kernel_rfl) (fun _ _ _ h => h) (Or.inl ⟨by rfl, ?hy77⟩) (by assumption) ?_
   case hy77 =>
     intro w hSw
     try dsimp only at hSw
     go_simp
     try with_reducible rfl
   clear hop
   try simp only [Act.put, List.setIfInBounds_toArray, List.set_cons_zero, List.set_cons_succ]
   refine heldAtV (i := 13) (oi := ?oi79) ?hi79 (fun hop => ?_)
   case hi79 => first | (simp only [List.getElem?_toArray, List.getElem?_cons_succ, List.getElem?_cons_zero]; exact rfl) | simp only [List.getElem?_toArray, List.getElem?_cons_succ, List.getElem?_cons_zero]
   refine wpAnyH_ready (rs := [13]) (by kernel_rfl) (by simp) ?_
   refine AllReadyH.cons hop (fun K hK => ?_) AllReadyH.nil
   clear hop
   go_simp
   refine hK.out _ _ ?_ (fun hHeld => ?_)
   · exact HS0.out
   clear hK K
   try simp only [Act.put, List.setIfInBounds_toArray, List.set_cons_zero, List.set_cons_succ]
   refine heldAtV (i := 18) (oi := ?oi80) ?hi80 (fun hop => ?_)
   case hi80 => first | (simp only [List.getElem?_toArray, List.getElem?_cons_succ, List.getElem?_cons_zero]; exact rfl) | simp only [List.getElem?_toArray, List.getElem?_cons_succ, List.getElem?_cons_zero]
   refine wpAnyH_ready (rs := [18]) (by kernel_rfl) (by simp) ?_
   refine AllReadyH.cons hop (fun K hK => ?_) AllReadyH.nil
   clear hop
   go_simp
   refine (PS.out _ _ (h7.pull 4).drew).mono ?_
   rintro e w4 ⟨mv, gv, AS1, FS1, TS, nS, rfl, hLS, h8, k8⟩
   have SB := makeSP (((h8.pull 5).pull 5).pull 5)
   refine hK.out _ _ ?_ (fun hHeld => ?_)
   · exact SB
   clear hK K
   try simp only [Act.put, List.setIfInBounds_toArray, List.set_cons_zero, List.set_cons_succ]
   refine heldAtV (i := 19) (oi := ?oi82) ?hi82 (fun hop => ?_)
   case hi82 => first | (simp only [List.getElem?_toArray, List.getElem?_cons_succ, List.getElem?_cons_zero]; exact rfl) | simp only [List.getElem?_toArray, List.getElem?_cons_succ, List.getElem?_cons_zero]
   refine wpAnyH_take (i := 19) (v := ?_) hop (by kernel_rfl) (by kernel_rfl) (by kernel_rfl) (fun _ _ _ h => h) (Or.inl ⟨by rfl, ?hy81⟩) (by assumption) ?_
   case hy81 =>
     intro w hSw
     try dsimp only at hSw
     go_simp
     try with_reducible rfl
   clear hop
   try simp only [Act.put, List.setIfInBounds_toArray, List.set_cons_zero, List.set_cons_succ]
   refine heldAtV (i := 20) (oi := ?oi84) ?hi84 (fun hop => ?_)
   case hi84 => first | (simp only [List.getElem?_toArray, List.getElem?_cons_succ, List.getElem?_cons_zero]; exact rfl) | simp only [List.getElem?_toArray, List.getElem?_cons_succ, List.getElem?_cons_zero]
   refine wpAnyH_take (i := 20) (v := ?_) hop (by kernel_rfl) (by kernel_rfl) (by kernel_rfl) (fun _ _ _ h => h) (Or.inl ⟨by rfl, ?hy83⟩) (by assumption) ?_
   case hy83 =>
     intro w hSw
     try dsimp only at hSw
     go_simp
     try with_reducible rfl
   clear hop
   try simp only [Act.put, List.setIfInBounds_toArray, List.set_cons_zero, List.set_cons_succ]
   refine heldAtV (i := 21) (oi := ?oi85) ?hi85 (fun hop => ?_)
   case hi85 => first | (simp only [List.getElem?_toArray, List.getElem?_cons_succ, List.getElem?_cons_zero]; exact rfl) | simp only [List.getElem?_toArray, List.getElem?_cons_succ, List.getElem?_cons_zero]
   refine wpAnyH_ready (rs := [21]) (by kernel_rfl) (by simp) ?_
   refine AllReadyH.cons hop (fun K hK => ?_) AllReadyH.nil
   clear hop
   go_simp
   refine (work_spots (h8.pull 4) (by have := HL3.out _ _ _ _ hLS; simp only [List.length_nil]; omega) (by have := HL4.out; simp only [List.length_nil]; omega)).mono ?_
   rintro e w5 ⟨rfl, h9, k9⟩
   have SC := makeSP (((h9.pull 3).pull 1).pull 3)
   obtain ⟨k1, k2, k3, k4, h10⟩ := workP_E h9
   have e10 := h10.cell 10
   have ef10 := h10.free 10
   simp [workC] at e10
   have hWl := h10.lt
   have h11 := workP_I (D := ⟨{ v with ks := TK.root.s, kg := TK.root.g, ss := TS.root.s, sg := TS.root.g }, [] ++ nK, [] ++ (putT kord ⟨nu, nm, n⟩ true tK).2, [] ++ nS, [] ++ (putT cmpI n ⟨true, nu, nm⟩ tS).2, true⟩) (h10.set 10 (.bool true))
   have SD := makeSP (((h11.pull 3).pull 1).pull 3)
   refine hK.out _ _ ?_ (fun hHeld => ?_)
   · exact SC
   clear hK K
   try simp only [Act.put, List.setIfInBounds_toArray, List.set_cons_zero, List.set_cons_succ]
   refine heldAtV (i := 22) (oi := ?oi87) ?hi87 (fun hop => ?_)
   case hi87 => first | (simp only [List.getElem?_toArray, List.getElem?_cons_succ, List.getElem?_cons_zero]; exact rfl) | simp only [List.getElem?_toArray, List.getElem?_cons_succ, List.getElem?_cons_zero]
   refine wpAnyH_take (i := 22) (v := ?_) hop (by kernel_rfl) (by kernel_rfl) (by kernel_rfl) (fun _ _ _ h => h) (Or.inl ⟨by rfl, ?hy86⟩) (by assumption) ?_
   case hy86 =>
     intro w hSw
     try dsimp only at hSw
     go_simp
     try with_reducible rfl
   clear hop
   try simp only [Act.put, List.setIfInBounds_toArray, List.set_cons_zero, List.set_cons_succ]
   refine heldAtV (i := 23) (oi := ?oi89) ?hi89 (fun hop => ?_)
   case hi89 => first | (simp only [List.getElem?_toArray, List.getElem?_cons_succ, List.getElem?_cons_zero]; exact rfl) | simp only [List.getElem?_toArray, List.getElem?_cons_succ, List.getElem?_cons_zero]
   refine wpAnyH_take (i := 23) (v := ?_) hop (by kernel_rfl) (by kernel_rfl) (by kernel_rfl) (fun _ _ _ h => h) (Or.inl ⟨by rfl, ?hy88⟩) (by assumption) ?_
   case hy88 =>
     intro w hSw
     try dsimp only at hSw
     go_simp
     try with_reducible rfl
   clear hop
   try simp only [Act.put, List.setIfInBounds_toArray, List.set_cons_zero, List.set_cons_succ]
   refine heldAtV (i := 24) (oi := ?oi90) ?hi90 (fun hop => ?_)
   case hi90 => first | (simp only [List.getElem?_toArray, List.getElem?_cons_succ, List.getElem?_cons_zero]; exact rfl) | simp only [List.getElem?_toArray, List.getElem?_cons_succ, List.getElem?_cons_zero]
   refine wpAnyH_ready (rs := [24]) (by kernel_rfl) (by simp) ?_
   refine AllReadyH.cons hop (fun K hK => ?_) AllReadyH.nil
   clear hop
   go_simp
   refine hK.out _ _ ?_ (fun hHeld => ?_)
   · exact SD
   clear hK K
   try simp only [Act.put, List.setIfInBounds_toArray, List.set_cons_zero, List.set_cons_succ]
   refine wpAnyH_done (by kernel_rfl) (NoPanic.normal ?_) _
   all_goals
     have k11 := (((k6.drew.trans k8).trans k9).setCell ⟨W, 10, none⟩ (.bool true))
     have h12 := ((h11.pull 2).tail.pull 1).push 3
     have q1 := HLK.out.most (by have b := freshT_size (putT kord ⟨nu, nm, n⟩ true tK).1; have c := putT_size kord ⟨nu, nm, n⟩ true tK; omega) lK
     have q2 := hLS.most (by have b := freshT_size (putT cmpI n (⟨true, nu, nm⟩ : SpD) tS).1; have c := putT_size cmpI n (⟨true, nu, nm⟩ : SpD) tS; omega) lS
     have q3 := HL1.out _ _ _ _ HLK.out
     have q4 := HL3.out _ _ _ _ hLS
     have hen := work_end_d (u := .returning) h12 rfl HLK.out.wf hLS.wf (by simpa using HLK.out.got) (by simpa using hLS.got) (by simpa using HLK.out.nodup) (by simpa using hLS.nodup) (by omega) (by omega) (by simp only [List.nil_append]; omega) (by simp only [List.nil_append]; have := HL2.out; omega) (by simp only [List.nil_append]; omega) (by simp only [List.nil_append]; have := HL4.out; omega)
     have HEN := Lib.hid hen
     clear hen h12 q1 q2 q3 q4
     go_wp2_with fail
     refine leaves_cons (f := 111) (args := #[.pointer (some ⟨W, 0, none⟩)]) (by simp) (by simp [go_sem]) ?_
     refine HEN.out.mono ?_
     rintro e u' w'' ⟨rfl, rfl, AK2, FK2, AS2, FS2, f1, f2, h13, k13⟩
     exact ⟨.tuple #[], results_none rfl _ _ _, rfl, AK1, FK1, TK, nK, AS1, FS1, TS, nS, AK2, FK2, AS2, FS2, HLK.out, hLS, f1, f2, h13, k11.trans k13⟩
/-! ### a version with a node more -/
theorem setS {w : World} {l : List HProp} {X V : Nat} {n nu : Int} {nm : ByteArray} {v : VerD} {tx tv : TypeId} (hs : Sat w (own X (.cells #[.int .i64 n, .bool false, .int .i64 0, .string ⟨#[]⟩, .bool true, .int .i64 nu, .string nm] tx (0, 0)) :: own V (.cells #[.int .i64 v.n, .int .i64 v.ks, .int .i64 v.kg, .int .i64 v.ss, .int .i64 v.sg] tv (0, 0)) :: l)) :
   (w.cell? ⟨X, 0, none⟩ = some (.int .i64 n) ∧ w.cell? ⟨X, 1, none⟩ = some (.bool false) ∧ w.cell? ⟨X, 2, none⟩ = some (.int .i64 0) ∧ w.cell? ⟨X, 3, none⟩ = some (.string ⟨#[]⟩) ∧ w.cell? ⟨X, 4, none⟩ = some (.bool true) ∧ w.cell? ⟨X, 5, none⟩ = some (.int .i64 nu) ∧ w.cell? ⟨X, 6, none⟩ = some (.string nm)) ∧
   (w.cell? ⟨V, 0, none⟩ = some (.int .i64 v.n) ∧ w.cell? ⟨V, 1, none⟩ = some (.int .i64 v.ks) ∧ w.cell? ⟨V, 2, none⟩ = some (.int .i64 v.kg) ∧ w.cell? ⟨V, 3, none⟩ = some (.int .i64 v.ss) ∧ w.cell? ⟨V, 4, none⟩ = some (.int .i64 v.sg)) :=
 ⟨⟨hs.cell 0, hs.cell 1, hs.cell 2, hs.cell 3, hs.cell 4, hs.cell 5, hs.cell 6⟩, (hs.pull 1).cell 0, (hs.pull 1).cell 1, (hs.pull 1).cell 2, (hs.pull 1).cell 3, (hs.pull 1).cell 4⟩
/-- What Set comes to, in memory. -/
def SetQ (s mk ms : Nat) (n nu : Int) (nm : ByteArray) (v : VerD) (most : Int) (AK : List SlotK) (FK : List Int) (AS : List SlotS) (FS : List Int) (GK GS : Nat) (tK : HTK) (tS : HTS) (l : List HProp) (w : World) (e : Ending) (w' : World) : Prop :=
 ∃ (D : WorkD) (k1 k2 k3 k4 : Value) (AK1 : List SlotK) (FK1 : List Int) (TK : HTK) (nK : List Hd) (AS1 : List SlotS) (FS1 : List Int) (TS : HTS) (nS : List Hd) (AK2 : List SlotK) (FK2 : List Int) (AS2 : List SlotS) (FS2 : List Int),
   e = .returned (.tuple #[aggV { v with ks := TK.root.s, kg := TK.root.g, ss := TS.root.s, sg := TS.root.g }, .agg #[k1, k2, k3, k4], .bool true]) ∧
   D = endD ⟨{ v with ks := TK.root.s, kg := TK.root.g, ss := TS.root.s, sg := TS.root.g }, [] ++ nK, [] ++ (putT kord ⟨nu, nm, n⟩ true tK).2, [] ++ nS, [] ++ (putT cmpI n ⟨true, nu, nm⟩ tS).2, true⟩ ∧
   Laid most AK FK GK (putT kord ⟨nu, nm, n⟩ true tK).1 AK1 FK1 TK nK ∧ Laid most AS FS GS (putT cmpI n ⟨true, nu, nm⟩ tS).1 AS1 FS1 TS nS ∧
   FreesA most AK1 FK1 (GK + freshT (putT kord ⟨nu, nm, n⟩ true tK).1) (bothH ([] ++ nK) ([] ++ (putT kord ⟨nu, nm, n⟩ true tK).2)) AK2 FK2 ∧ FreesA most AS1 FS1 (GS + freshT (putT cmpI n ⟨true, nu, nm⟩ tS).1) (bothH ([] ++ nS) ([] ++ (putT cmpI n ⟨true, nu, nm⟩ tS).2)) AS2 FS2 ∧
   Sat w' (rowT fH k1 56 2 D.km :: rowT fH k2 56 2 D.kg :: rowT fH k3 56 2 D.sm :: rowT fH k4 56 2 D.sg :: own s (.cells (stoC mk ms) 80 (0, 0)) :: mapK mk most AK2 FK2 :: mapS ms most AS2 FS2 :: l) ∧ Kp w w'
theorem store_set_new {w : World} {l : List HProp} {s mk ms : Nat} {n nu : Int} {nm : ByteArray} {v : VerD} {most : Int} {AK : List SlotK} {FK : List Int} {AS : List SlotS} {FS : List Int} {GK GS : Nat} {tK : HTK} {tS : HTS}
   (hs : Sat w (own s (.cells (stoC mk ms) 80 (0, 0)) :: mapK mk most AK FK :: mapS ms most AS FS :: l)) (hnone : getT cmpI n tS = none)
   (hvk : v.ks = tK.root.s) (hvk2 : v.kg = tK.root.g) (hvs : v.ss = tS.root.s) (hvs2 : v.sg = tS.root.g)
   (hRK : RepO AK tK) (hRS : RepO AS tS) (hHK : HiOk tK) (hHS : HiOk tS) (hWK : WfA AK FK GK) (hWS : WfA AS FS GS) (zK : tK.size < 50000) (zS : tS.size < 50000)
   (hm0 : 0 ≤ most) (hm1 : most ≤ 1000000) (lK : (AK.length : Int) ≤ most) (lS : (AS.length : Int) ≤ most) (gK : GK + 200000 < 1000000000000) (gS : GS + 200000 < 1000000000000) (rK : (tK.size + 1 : Int) ≤ roomA most AK FK) (rS : (tS.size + 1 : Int) ≤ roomA most AS FS) :
   Calls Tryz.prog 43 #[.pointer (some ⟨s, 0, none⟩), aggV v, .agg #[.int .i64 n, .bool false, .int .i64 0, .string ⟨#[]⟩, .bool true, .int .i64 nu, .string nm]] w (SetQ s mk ms n nu nm v most AK FK AS FS GK GS tK tS l w) := by
 have sp := fun (W' : World) (l' : List HProp) (hW' : Sat W' (own s (.cells (stoC mk ms) 80 (0, 0)) :: mapS ms most AS FS :: l')) => store_spot (v := v) n hW' hRS hvs hvs2
 rw [hnone] at sp
 simp only [Option.getD_none] at sp
 have ma := fun (W' : World) (Wb : Nat) (l' : List HProp) (hW' : Sat W' (workP Wb s ⟨v, [], [], [], [], false⟩ :: own s (.cells (stoC mk ms) 80 (0, 0)) :: mapK mk most AK FK :: mapS ms most AS FS :: l')) => work_make_put (n := n) (ou := 0) (nu := nu) (om := ⟨#[]⟩) (nm := nm) hW' hvk hvk2 hvs hvs2 hRK hRS hHK hHS hWK hWS zK zS hm0 hm1 lK lS gK gS rK rS
 unfold aggV aggSp spD0 at sp
 dsimp only at sp
 have SP := Lib.hid sp
 have MA := Lib.hid ma
 have hB := (((hs.alloc (.cells #[.int .i64 v.n, .int .i64 v.ks, .int .i64 v.kg, .int .i64 v.ss, .int .i64 v.sg] 58)).alloc (.cells #[.int .i64 n, .bool false, .int .i64 0, .string ⟨#[]⟩, .bool true, .int .i64 nu, .string nm] 101)).alloc (.cells #[.int .i64 0, .int .i64 0, .int .i64 0, .int .i64 0, .int .i64 0] 58)).alloc (.cells #[.slice none 0 0, .slice none 0 0, .slice none 0 0, .slice none 0 0] 94)
 have kB := ((((Kp.refl w).alloc (.cells #[.int .i64 v.n, .int .i64 v.ks, .int .i64 v.kg, .int .i64 v.ss, .int .i64 v.sg] 58)).alloc (.cells #[.int .i64 n, .bool false, .int .i64 0, .string ⟨#[]⟩, .bool true, .int .i64 nu, .string nm] 101)).alloc (.cells #[.int .i64 0, .int .i64 0, .int .i64 0, .int .i64 0, .int .i64 0] 58)).alloc (.cells #[.slice none 0 0, .slice none 0 0, .slice none 0 0, .slice none 0 0] 94)
 simp only [World.size_alloc] at hB
 clear sp ma hs hnone hvk hvk2 hvs hvs2 hRK hRS hHK hHS hWK hWS zK zS hm0 hm1 lK lS gK gS rK rS
 unfold aggV
 go_enter Tryz.func43, Tryz.ntmps43
 go_upto_region 1 with (fail)
 generalize World.alloc _ _ = w1 at hB kB ⊢
 generalize w.heap.size + 1 + 1 + 1 = RT at hB ⊢
 generalize w.heap.size + 1 + 1 = RV at hB ⊢
 generalize w.heap.size + 1 = X at hB ⊢
 generalize w.heap.size = V at hB ⊢
 have h2 := (hB.push 3).push 3
 have S0 := setS h2
 have HS0 := Lib.hid S0
 obtain ⟨⟨x0, x1, x2, x3, x4, x5, x6⟩, y0, y1, y2, y3, y4⟩ := S0
 go_upto_region 3 with (fail)
 have hp := SP.out _ _ ((h2.pull 6).pull 5 |>.drew)
 go_region_held3 (fun w' => (w'.cell? ⟨X, 0, none⟩ = some (.int .i64 n) ∧ w'.cell? ⟨X, 1, none⟩ = some (.bool false) ∧ w'.cell? ⟨X, 2, none⟩ = some (.int .i64 0) ∧ w'.cell? ⟨X, 3, none⟩ = some (.string ⟨#[]⟩) ∧ w'.cell? ⟨X, 4, none⟩ = some (.bool true) ∧ w'.cell? ⟨X, 5, none⟩ = some (.int .i64 nu) ∧ w'.cell? ⟨X, 6, none⟩ = some (.string nm)) ∧ (w'.cell? ⟨V, 0, none⟩ = some (.int .i64 v.n) ∧ w'.cell? ⟨V, 1, none⟩ = some (.int .i64 v.ks) ∧ w'.cell? ⟨V, 2, none⟩ = some (.int .i64 v.kg) ∧ w'.cell? ⟨V, 3, none⟩ = some (.int .i64 v.ss) ∧ w'.cell? ⟨V, 4, none⟩ = some (.int .i64 v.sg))) (first | with_reducible exact HS0.out | with_reducible exact SA | go_keep) ((go_at_call 44; (with_reducible refine hp.mono ?_); rintro e w3 ⟨rfl, h3, k3⟩; have SA := setS ((h3.pull 3).pull 3)))
 have k3 := kB.drew.trans k3
 clear hp HS0 x0 x1 x2 x3 x4 x5 x6 y0 y1 y2 y3 y4 h2 hB kB
 have y0 := (h3.pull 3).cell 0
 have y1 := (h3.pull 3).cell 1
 have y2 := (h3.pull 3).cell 2
 have y3 := (h3.pull 3).cell 3
 have y4 := (h3.pull 3).cell 4
 simp at y0 y1 y2 y3 y4
 have h4 := ((((h3.tNil fH 56 2).tNil fH 56 2).tNil fH 56 2).tNil fH 56 2).alloc (.cells #[.pointer (some ⟨s, 0, none⟩), .int .i64 v.n, .int .i64 v.ks, .int .i64 v.kg, .int .i64 v.ss, .int .i64 v.sg, .slice none 0 0, .slice none 0 0, .slice none 0 0, .slice none 0 0, .bool false] 169)
 have k4 := k3.alloc (.cells #[.pointer (some ⟨s, 0, none⟩), .int .i64 v.n, .int .i64 v.ks, .int .i64 v.kg, .int .i64 v.ss, .int .i64 v.sg, .slice none 0 0, .slice none 0 0, .slice none 0 0, .slice none 0 0, .bool false] 169)
 have hvl := (h3.pull 3).lt
 clear SA
 go_upto_region 6 with (fail)
 generalize World.alloc _ _ = w4 at h4 k4 ⊢
 generalize w3.heap.size = W at h4 ⊢
 clear h3 k3 y0 y1 y2 y3 y4 hvl
 have h5 := ((workP_I (D := ⟨v, [], [], [], [], false⟩) h4).pull 7).push 2
 have x0 := (h5.pull 4).cell 0
 have x1 := (h5.pull 4).cell 1
 have x2 := (h5.pull 4).cell 2
 have x3 := (h5.pull 4).cell 3
 have x4 := (h5.pull 4).cell 4
 have x5 := (h5.pull 4).cell 5
 have x6 := (h5.pull 4).cell 6
 simp at x0 x1 x2 x3 x4 x5 x6
 have hm := MA.out _ _ _ h5
 clear h4
 go_wp2_with fail
 refine hm.mono ?_
 rintro e w7 ⟨rfl, AK1, FK1, TK, nK, AS1, FS1, TS, nS, AK2, FK2, AS2, FS2, l1, l2, f1, f2, h7, k7⟩
 have k7 := k4.trans k7
 have L1 := Lib.hid l1
 have L2 := Lib.hid l2
 have F1 := Lib.hid f1
 have F2 := Lib.hid f2
 clear hm h5 k4 x0 x1 x2 x3 x4 x5 x6 l1 l2 f1 f2
 obtain ⟨k1, k2, k3, k4, h8⟩ := workP_E h7
 obtain ⟨o1, m1, c1, rfl⟩ : ∃ o m c, k1 = .slice o m c := by obtain ⟨o, c, e⟩ := (h8.pull 1).tLen; exact ⟨o, _, c, e⟩
 obtain ⟨o2, m2, c2, rfl⟩ : ∃ o m c, k2 = .slice o m c := by obtain ⟨o, c, e⟩ := (h8.pull 2).tLen; exact ⟨o, _, c, e⟩
 obtain ⟨o3, m3, c3, rfl⟩ : ∃ o m c, k3 = .slice o m c := by obtain ⟨o, c, e⟩ := (h8.pull 3).tLen; exact ⟨o, _, c, e⟩
 obtain ⟨o4, m4, c4, rfl⟩ : ∃ o m c, k4 = .slice o m c := by obtain ⟨o, c, e⟩ := (h8.pull 4).tLen; exact ⟨o, _, c, e⟩
 have S0 : w7.cell? ⟨W, 1, none⟩ = some (.int .i64 v.n) ∧ w7.cell? ⟨W, 2, none⟩ = some (.int .i64 TK.root.s) ∧ w7.cell? ⟨W, 3, none⟩ = some (.int .i64 TK.root.g) ∧ w7.cell? ⟨W, 4, none⟩ = some (.int .i64 TS.root.s) ∧ w7.cell? ⟨W, 5, none⟩ = some (.int .i64 TS.root.g) ∧ w7.cell? ⟨W, 6, none⟩ = some (.slice o1 m1 c1) ∧ w7.cell? ⟨W, 7, none⟩ = some (.slice o2 m2 c2) ∧ w7.cell? ⟨W, 8, none⟩ = some (.slice o3 m3 c3) ∧ w7.cell? ⟨W, 9, none⟩ = some (.slice o4 m4 c4) := ⟨h8.cell 1, h8.cell 2, h8.cell 3, h8.cell 4, h8.cell 5, h8.cell 6, h8.cell 7, h8.cell 8, h8.cell 9⟩
 have HS0 := Lib.hid S0
 have d10 : w7.cell? ⟨W, 10, none⟩ = some (.bool true) := h8.cell 10
 have n1 := (h8.pull 10).ne
 have n1' := n1.symm
 have n2 := (h8.pull 11).ne
 have n2' := n2.symm
 have n3 := ((h8.pull 11).pull 11).ne
 have n3' := n3.symm
 have t0 := (h8.pull 10).cell 0
 have t1 := (h8.pull 10).cell 1
 have t2 := (h8.pull 10).cell 2
 have t3 := (h8.pull 10).cell 3
 have tf0 := (h8.pull 10).free 0
 have tf1 := (h8.pull 10).free 1
 have tf2 := (h8.pull 10).free 2
 have tf3 := (h8.pull 10).free 3
 simp at t0 t1 t2 t3
 have v0 := (h8.pull 11).cell 0
 have v1 := (h8.pull 11).cell 1
 have v2 := (h8.pull 11).cell 2
 have v3 := (h8.pull 11).cell 3
 have v4 := (h8.pull 11).cell 4
 have vf0 := (h8.pull 11).free 0
 have vf1 := (h8.pull 11).free 1
 have vf2 := (h8.pull 11).free 2
 have vf3 := (h8.pull 11).free 3
 have vf4 := (h8.pull 11).free 4
 simp at v0 v1 v2 v3 v4
 have hwl := h8.lt
 go_upto_region 9 with (fail)
 obtain ⟨e1, e2, e3, e4, e5, e6, e7, e8, e9⟩ := S0
 have g1 := (((((((h8.pull 11)).set 0 (.int .i64 v.n)).set 1 (.int .i64 TK.root.s)).set 2 (.int .i64 TK.root.g)).set 3 (.int .i64 TS.root.s)).set 4 (.int .i64 TS.root.g))
 have g2 := (((((g1.pull 11).set 0 (.slice o1 m1 c1)).set 1 (.slice o2 m2 c2)).set 2 (.slice o3 m3 c3)).set 3 (.slice o4 m4 c4))
 have q1 := (((((((((k7.setCell ⟨RV, 0, none⟩ (.int .i64 v.n)).setCell ⟨RV, 1, none⟩ (.int .i64 TK.root.s)).setCell ⟨RV, 2, none⟩ (.int .i64 TK.root.g)).setCell ⟨RV, 3, none⟩ (.int .i64 TS.root.s)).setCell ⟨RV, 4, none⟩ (.int .i64 TS.root.g)).setCell ⟨RT, 0, none⟩ (.slice o1 m1 c1)).setCell ⟨RT, 1, none⟩ (.slice o2 m2 c2)).setCell ⟨RT, 2, none⟩ (.slice o3 m3 c3)).setCell ⟨RT, 3, none⟩ (.slice o4 m4 c4))
 clear h7
 go_region_held3 (fun w' => w'.cell? ⟨W, 1, none⟩ = some (.int .i64 v.n) ∧ w'.cell? ⟨W, 2, none⟩ = some (.int .i64 TK.root.s) ∧ w'.cell? ⟨W, 3, none⟩ = some (.int .i64 TK.root.g) ∧ w'.cell? ⟨W, 4, none⟩ = some (.int .i64 TS.root.s) ∧ w'.cell? ⟨W, 5, none⟩ = some (.int .i64 TS.root.g) ∧ w'.cell? ⟨W, 6, none⟩ = some (.slice o1 m1 c1) ∧ w'.cell? ⟨W, 7, none⟩ = some (.slice o2 m2 c2) ∧ w'.cell? ⟨W, 8, none⟩ = some (.slice o3 m3 c3) ∧ w'.cell? ⟨W, 9, none⟩ = some (.slice o4 m4 c4)) (first | with_reducible exact HS0.out | go_keep) ((fail))
 all_goals
   have G := g2.drew
   have Q := q1.drew
   clear g1 g2 q1 h8 t0 tf0 t1 tf1 t2 tf2 t3 tf3 v0 vf0 v1 vf1 v2 vf2 v3 vf3 v4 vf4 e1 e2 e3 e4 e5 e6 e7 e8 e9 d10 HS0
   generalize World.drew _ = w8 at G Q ⊢
   have t0 := (G).cell 0
   have t1 := (G).cell 1
   have t2 := (G).cell 2
   have t3 := (G).cell 3
   simp at t0 t1 t2 t3
   have v0 := (G.pull 1).cell 0
   have v1 := (G.pull 1).cell 1
   have v2 := (G.pull 1).cell 2
   have v3 := (G.pull 1).cell 3
   have v4 := (G.pull 1).cell 4
   simp at v0 v1 v2 v3 v4
   have HG := Lib.hid (((G.tail.tail.tail.pull 7).tail.pull 7).tail)
   have HQ := Lib.hid Q
   clear G Q
   go_wp2_with fail
   refine bodyPost_ret (v := .tuple #[.agg #[.int .i64 v.n, .int .i64 TK.root.s, .int .i64 TK.root.g, .int .i64 TS.root.s, .int .i64 TS.root.g], .agg #[.slice o1 m1 c1, .slice o2 m2 c2, .slice o3 m3 c3, .slice o4 m4 c4], .bool true]) (by simp [results, Tryz.results43, go_sem, t0, t1, t2, t3, v0, v1, v2, v3, v4]) rfl ?_
   exact ⟨endD _, .slice o1 m1 c1, .slice o2 m2 c2, .slice o3 m3 c3, .slice o4 m4 c4, AK1, FK1, TK, nK, AS1, FS1, TS, nS, AK2, FK2, AS2, FS2, rfl, rfl, L1.out, L2.out, F1.out, F2.out, HG.out, HQ.out⟩
end Go.Proofs.YtddglbjhhnipgaaGreatDoor

import Derived.Test.YtddglbjhhnipgaaGreatDoorGP
import Derived.Test.YtddglbjhhnipgaaGreatDoorIS
namespace Go.Proofs.YtddglbjhhnipgaaGreatDoor
open Go Go.RowKit
set_option linter.unusedVariables false
set_option linter.unusedSimpArgs false
set_option maxRecDepth 100000
set_option maxHeartbeats 8000000
/-! ### the document's tree, of which the nodes' slice is told -/
def refV (t : Nat) (u : Value) (L : List KidD) : HProp :=
 ex fun vw => ex fun vs : List Value => all [lift (vs.length = ([] : List (List KidD)).length), own t (.cells #[u, vw] 150 (0, 0)), rowT fV vw 26 1 vs, poolP fK [(u, L)]]
theorem refV_I {w : World} {l : List HProp} {t : Nat} {L : List KidD} {u vw : Value} {vs : List Value} (h : vs.length = ([] : List (List KidD)).length)
   (hs : Sat w (own t (.cells #[u, vw] 150 (0, 0)) :: rowT fV vw 26 1 vs :: poolP fK [(u, L)] :: l)) : Sat w (refV t u L :: l) :=
 Sat.exI vw (Sat.exI vs (Sat.allI (hs.liftI h)))
theorem refV_E {w : World} {l : List HProp} {t : Nat} {L : List KidD} {u : Value} (hs : Sat w (refV t u L :: l)) :
   ∃ vw vs, vs.length = ([] : List (List KidD)).length ∧ Sat w (own t (.cells #[u, vw] 150 (0, 0)) :: rowT fV vw 26 1 vs :: poolP fK [(u, L)] :: l) := by
 obtain ⟨vw, h⟩ := hs.exE
 obtain ⟨vs, h⟩ := h.exE
 exact ⟨vw, vs, h.allE.liftE⟩
theorem refV_pool {w : World} {l : List HProp} {t : Nat} {L : List KidD} {u : Value} (hs : Sat w (refV t u L :: l)) : Sat w (poolP fK [(u, L)] :: l) := by
 obtain ⟨vw, vs, hl, h⟩ := refV_E hs
 exact h.tail.tail
theorem refV_L {w : World} {l : List HProp} {t : Nat} {L : List KidD} {u : Value} (hs : Sat w (refV t u L :: l)) : ∃ ao cap, w.cell? ⟨t, 0, none⟩ = some (.slice ao L.length cap) ∧ ArgRow w fK ao L.length cap L ∧ t < w.heap.size := by
 obtain ⟨vw, vs, hl, h⟩ := refV_E hs
 obtain ⟨ao, cap, rfl, ha⟩ := (h.pull 2).poolArg (v := u) (ks := L) (by simp)
 have c0 := h.cell 0
 simp at c0
 exact ⟨ao, cap, c0, ha, h.lt⟩
theorem refV_kids {w : World} {l : List HProp} {t : Nat} {L : List KidD} {u : Value} {n : Int} (hs : Sat w (refV t u L :: l)) (hnd : L.Nodup) (hL : L.length ≤ 1000) :
   Calls Tryz.prog 78 #[.pointer (some ⟨t, 0, none⟩), .int .i64 n] w fun e w' => ∃ v, e = .returned v ∧ Sat w' (rowT fK v 73 3 (isort klt (L.filter fun k => k.up == n)) :: refV t u L :: l) ∧ Kp w w' := by
 obtain ⟨i1, hj, hy0, hy1, hy2⟩ := info_parts Tryz.infoKid
 obtain ⟨vw, vs, hl, h⟩ := refV_E hs
 obtain ⟨ao, cap, rfl, _⟩ := (h.pull 2).poolArg (v := u) (ks := L) (List.mem_cons_self ..)
 obtain ⟨m, hm⟩ : ∃ m, m = L.length := ⟨_, rfl⟩
 rw [← hm] at h hL ⊢
 have HM := Lib.hid hm
 have HL := Lib.hid hl
 have HD := Lib.hid hnd
 have hL' : (m : Int) ≤ 1000 := by omega
 clear hm hl hnd hs
 have h0 := h.tNil fK 73 3
 go_enter Tryz.func78, Tryz.ntmps78
 go_wp2_with fail
 go_loopw [5, 6] (fun ov iv wr => ∃ i : Nat, i ≤ m ∧ iv = .int .i64 i ∧ Sat wr (rowT fK ov 73 3 ((L.take i).filter fun k => k.up == n) :: own t (.cells #[.slice ao m cap, vw] 150 (0, 0)) :: rowT fV vw 26 1 vs :: poolP fK ((.slice ao m cap, L) :: []) :: l) ∧ Kp w wr) (fun _ iv _ => m - (intOf iv).toNat)
 case atStart => exact ⟨0, by omega, rfl, h0, Kp.refl w⟩
 case round =>
   clear h0 h
   obtain ⟨i, him, rfl, h1, k1⟩ := hrel
   have c0 := (h1.pull 1).cell 0
   simp at c0
   have har := (h1.pull 3).poolArg' (List.mem_cons_self ..)
   have hfl : ((L.take i).filter fun k => k.up == n).length ≤ i := Nat.le_trans (List.length_filter_le _ _) (List.length_take_le _ _)
   by_cases hlt : i < m
   case neg =>
     obtain rfl : m = i := by omega
     have e1 : L.take m = L := List.take_of_length_le (by rw [HM.out]; exact Nat.le_refl _)
     rw [e1] at h1 hfl
     have hnd2 : (L.filter fun k => k.up == n).Nodup := HD.out.filter _
     have hso : ∀ ao' n' cap', u5 = .slice ao' n' cap' → _ := fun ao' n' cap' e => ref_sorted (ao := ao') (n := n') (cap := cap') h1 (fun w' h' => by
       obtain ⟨ao2, cap2, e2, ha2⟩ := h'.argRow
       rw [e] at e2
       simp only [Value.slice.injEq] at e2
       obtain ⟨rfl, rfl, rfl⟩ := e2
       exact ha2) hnd2 (by
       obtain ⟨ao2, cap2, e2, ha2⟩ := h1.argRow
       rw [e] at e2
       simp only [Value.slice.injEq] at e2
       obtain ⟨rfl, rfl, rfl⟩ := e2
       omega)
     obtain ⟨oao, ocap, ho⟩ := h1.tLen
     have hso2 := hso _ _ _ ho
     generalize (L.filter fun k => k.up == n).length = q at ho hso2
     subst ho
     have HS := Lib.hid hso2
     clear hso hso2 hnd2 hfl har e1
     go_wp2_with fail
     refine HS.out.mono ?_
     rintro e w2 ⟨v', rfl, h2, k2⟩
     go_wp2_with fail
     go_ret
     exact ⟨v', rfl, (refV_I HL.out ((((h2.pull 1).tail).push 3))).swap, k1.trans k2⟩
   obtain ⟨x, hx⟩ : ∃ x, L[i]? = some x := ⟨_, List.getElem?_eq_getElem (by rw [← HM.out]; exact hlt)⟩
   obtain ⟨ab, off, rfl⟩ := har.some hlt
   have x0 := har.cell len_fK 0 rfl hx rfl
   have x1 := har.cell len_fK 1 rfl hx rfl
   have x2 := har.cell len_fK 2 rfl hx rfl
   rw [Nat.add_zero] at x0
   have i0' : (0 : Int) ≤ (i : Int) := by omega
   have i1' : (i : Int) < (m : Int) := by omega
   have HTK := Lib.hid (show (L.take (i + 1)).filter (fun k => k.up == n) = (L.take i).filter (fun k => k.up == n) ++ (if x.up == n then [x] else []) by
     rw [take_snoc' hx, List.filter_append]
     congr 1
     cases hb : x.up == n <;> simp [hb])
   obtain ⟨q, hq⟩ : ∃ q, ((L.take i).filter fun k => k.up == n).length = q := ⟨_, rfl⟩
   obtain ⟨oao, ocap, ho⟩ := h1.tLen
   rw [hq] at ho hfl
   subst ho
   have HQ := Lib.hid hq
   clear hx hq
   cases hb : x.up == n with
   | false =>
     have HTK2 := Lib.hid (show (L.take (i + 1)).filter (fun k => k.up == n) = (L.take i).filter (fun k => k.up == n) by rw [HTK.out, hb]; simp)
     go_wp2_with fail
     go_roundw
     case rel => exact ⟨i + 1, by omega, by go_num, by rw [HTK2.out]; exact h1, k1⟩
     case measure => simp [intOf]; omega
   | true =>
     have HTK2 := Lib.hid (show (L.take (i + 1)).filter (fun k => k.up == n) = (L.take i).filter (fun k => k.up == n) ++ [x] by rw [HTK.out, hb]; rfl)
     have hX := h1.alloc (.cells #[.int .i64 x.up, .string x.name, .int .i64 x.node] 73)
     have kX := k1.alloc (.cells #[.int .i64 x.up, .string x.name, .int .i64 x.node] 73)
     have e2 : rowT fK (.slice oao q ocap) 73 3 ((L.take i).filter fun k => k.up == n) = row (.slice oao q ocap) 73 3 q (((L.take i).filter fun k => k.up == n).flatMap fK) := by unfold rowT; rw [HQ.out]
     rw [e2] at hX
     clear e2
     go_wp2_with (at_builtin; refine wpList_append_lit rfl (.tmp 26) (.tmp 34) 26 rfl 73 i1 _ 3 32 Tryz.underlying26 hj hy0 hy1 hy2 rfl (by decide) _ _ _ _ _ _ _ rfl (hX.pull 1) 1 1 rfl rfl rfl ?c3 ?c4 ?c5)
     case c3 => unfold maxLen; omega
     case c4 => omega
     case c5 =>
       intro v' w5 hs5 hk5
       rw [← HQ.out] at hs5
       have h7 := Sat.tSnoc (f := fK) (x := x) hs5 rfl
       rw [← HTK2.out] at h7
       have h8 := (h7.pull 1).tail
       clear hs5 h7 hX h1 x0 x1 x2
       go_wp2_with fail
       go_roundw
       case rel => exact ⟨i + 1, by omega, by go_num, h8, kX.trans hk5⟩
       case measure => simp [intOf]; omega
theorem refV_find_any {w : World} {l : List HProp} {t : Nat} {f : Int → Option Loc} {L : List KidD} {u : Value} (s : ByteArray) (hs : Sat w (refV t u L :: l)) (hE : EnumK f L) (hL : L.length ≤ 1000) :
   Calls Tryz.prog 77 #[.pointer (some ⟨t, 0, none⟩), .string s] w (FindPost w f s (refV t u L :: l)) := by
 have HE := Lib.hid hE
 have HLL := Lib.hid hL
 have hcall := ref_split s hs
 clear hE hL
 go_enter Tryz.func77, Tryz.ntmps77
 go_wp2_with fail
 refine hcall.mono ?_
 rintro e w1 ⟨k0, ⟨hp, rfl, h0⟩ | ⟨v, nms, hp, hnl, -, rfl, h0⟩⟩
 · have HP := Lib.hid hp
   clear hcall hp
   go_wp2_with fail
   go_ret2
   exact ⟨_, _, .inl ⟨HP.out, rfl, rfl⟩, rfl, h0, k0⟩
 have HP := Lib.hid hp
 clear hcall hp hs
 obtain ⟨ao, cap, rfl⟩ := h0.tLen
 obtain ⟨n, hn⟩ : ∃ n, n = nms.length := ⟨_, rfl⟩
 rw [← hn] at h0 hnl ⊢
 have HN := Lib.hid hn
 clear hn
 go_wp2_with fail
 go_loopw [8, 9, 10, 11, 12] (fun av xv kv fv jv wr => ∃ (i : Nat) (at' : Int), i ≤ n ∧ xv = .int .i64 i ∧ av = .int .i64 at' ∧ Hid (∀ a er, FindR f at' (nms.drop i) a er → FindR f 0 nms a er) ∧ Sat wr (rowT fSt (.slice ao n cap) 9 1 nms :: refV t u L :: l) ∧ Kp w wr) (fun _ xv _ _ _ _ => n - (intOf xv).toNat)
 case atStart => exact ⟨0, 0, by omega, rfl, rfl, Lib.hid (fun a er h => by simpa using h), h0, k0⟩
 case round =>
   clear h0 k0
   obtain ⟨i, at', hin, rfl, rfl, hI, h2, k2⟩ := hrel
   by_cases hlt : i < n
   case neg =>
     obtain rfl : n = i := by omega
     have hfin := hI.out at' 0 (by rw [List.drop_of_length_le (by rw [← HN.out]; exact Nat.le_refl _)]; exact ⟨rfl, rfl⟩)
     have HFIN := Lib.hid hfin
     clear hfin
     go_wp2_with fail
     go_ret2
     exact ⟨_, _, .inr ⟨nms, HP.out, HFIN.out⟩, rfl, h2.tail, k2⟩
   have hil : i < nms.length := by rw [← HN.out]; exact hlt
   obtain ⟨nm, hx⟩ : ∃ nm, nms[i]? = some nm := ⟨_, List.getElem?_eq_getElem hil⟩
   have hdrop : nms.drop i = nm :: nms.drop (i + 1) := by
     rw [List.drop_eq_getElem_cons hil]
     congr 1
     exact Option.some.inj ((List.getElem?_eq_getElem hil).symm.trans hx)
   rw [hdrop] at hI
   rcases h2.tForm with ⟨hv, hp⟩ | ⟨g, off, cap', hv⟩
   · rw [hp] at hx; simp at hx
   simp only [Value.slice.injEq] at hv
   obtain ⟨rfl, -, rfl⟩ := hv
   have i0' : (0 : Int) ≤ (i : Int) := by omega
   have i1' : (i : Int) < (n : Int) := by omega
   have iw : IntKind.i64.wrap ((i : Int) + 1) = (i : Int) + 1 := by rw [IntWalk.i64_in _ (by omega)]
   have HX := Lib.hid hx
   clear hx hdrop hil
   have hkc := refV_kids (n := at') (h2.pull 1) (nodup_nodes HE.out.nodup) HLL.out
   go_wp2_with fail
   refine hkc.mono ?_
   rintro e w3 ⟨kv, rfl, h3, k3⟩
   have k3 := k2.trans k3
   clear hkc h2 k2
   have hl8 : (isort klt (L.filter fun k => k.up == at')).length ≤ 1000 := by
     rw [(isort_perm klt _).length_eq]
     exact Nat.le_trans (List.length_filter_le _ _) HLL.out
   have hkk : isort klt (kidsOf (fun p => p.2.up == at') (L.map pairK)) = isort klt (L.filter fun k => k.up == at') := kids_one_n at' HE.out (enum_of HE.out) 
   have hfi : ∀ (fnd : Bool) (nv : Int), Seek (isort klt (L.filter fun k => k.up == at')) nm at' (isort klt (L.filter fun k => k.up == at')).length fnd nv ∨ (fnd = true ∧ ∃ k, Seek (isort klt (L.filter fun k => k.up == at')) nm at' k fnd nv) → (fnd = false ∧ ∀ k, f k ≠ some ⟨at', nm⟩) ∨ (fnd = true ∧ f nv = some ⟨at', nm⟩ ∧ ∀ k', f k' = some ⟨at', nm⟩ → nv ≤ k') := by
     intro fnd nv h
     rw [← hkk] at h
     have hE2 := enum_of HE.out
     have hyes : ∀ k, fnd = true → Seek (isort klt (kidsOf (fun p => p.2.up == at') (L.map pairK))) nm at' k fnd nv → (fnd = true ∧ f nv = some ⟨at', nm⟩ ∧ ∀ k', f k' = some ⟨at', nm⟩ → nv ≤ k') := by
       rintro k hf (⟨h1, _⟩ | ⟨h1, j, x, h2, h3, h4, h5⟩)
       · rw [hf] at h1; cases h1
       · rw [h2]
         exact ⟨h1, (kids_first hE2 h3 h4 (fun i hi y hy => h5 i y hi hy)).1, (kids_first hE2 h3 h4 (fun i hi y hy => h5 i y hi hy)).2⟩
     rcases h with h | ⟨hf, k, h⟩
     · cases fnd with
       | true => exact .inr (hyes _ rfl h)
       | false =>
         rcases h with ⟨_, _, h3⟩ | ⟨h1, _⟩
         · refine .inl ⟨rfl, kids_none hE2 fun k hk => ?_⟩
           obtain ⟨j, hj⟩ := List.getElem?_of_mem hk
           exact h3 j k (List.getElem?_eq_some_iff.1 hj).1 hj
         · cases h1
     · exact .inr (hyes k hf h)
   have HFI := Lib.hid hfi
   clear hfi hkk
   generalize isort klt (L.filter fun k => k.up == at') = ks at h3 hl8 HFI
   obtain ⟨kao, kcap, hkv⟩ := h3.tLen
   obtain ⟨q, hq⟩ : ∃ q, q = ks.length := ⟨_, rfl⟩
   rw [← hq] at hkv hl8 HFI
   subst hkv
   have HQ := Lib.hid hq
   clear hq
   go_wp2_with fail
   go_loopw [8, 11, 12] (fun av fv jv wr => ∃ (k : Nat) (fnd : Bool) (nv : Int), k ≤ q ∧ jv = .int .i64 k ∧ fv = .bool fnd ∧ av = .int .i64 nv ∧ Hid (Seek ks nm at' k fnd nv) ∧ Sat wr (rowT fK (.slice kao q kcap) 73 3 ks :: refV t u L :: rowT fSt (.slice (some ⟨g, off, none⟩) n cap) 9 1 nms :: l) ∧ Kp w wr) (fun _ fv jv _ => q - (intOf jv).toNat)
   case atStart => exact ⟨0, false, at', by omega, rfl, rfl, rfl, Lib.hid (.inl ⟨rfl, rfl, fun j x hj => absurd hj (Nat.not_lt_zero _)⟩), h3, k3⟩
   case round =>
     clear h3 k3
     obtain ⟨k, fnd, nv, hkq, rfl, rfl, rfl, hS, h4, k4⟩ := hrel
     have hdone : (fnd = true ∨ k = q) → (fnd = false ∧ ∀ k, f k ≠ some ⟨at', nm⟩) ∨ (fnd = true ∧ f nv = some ⟨at', nm⟩ ∧ ∀ k', f k' = some ⟨at', nm⟩ → nv ≤ k') := fun h => by
       rcases h with h | h
       · exact HFI.out fnd nv (.inr ⟨h, k, hS.out⟩)
       · subst h; exact HFI.out fnd nv (.inl hS.out)
     by_cases hgo : fnd = false ∧ k < q
     case pos =>
       obtain ⟨rfl, hkl⟩ := hgo
       obtain ⟨x, hx⟩ : ∃ x, ks[k]? = some x := ⟨_, List.getElem?_eq_getElem (by rw [← HQ.out]; exact hkl)⟩
       rcases h4.tForm with ⟨hv, hp⟩ | ⟨kg, koff, kcap', hv⟩
       · rw [hp] at hx; simp at hx
       simp only [Value.slice.injEq] at hv
       obtain ⟨rfl, -, rfl⟩ := hv
       have y1 := h4.tCell len_fK k 1 hx rfl
       have y2 := h4.tCell len_fK k 2 hx rfl
       have x0 := (h4.pull 2).tCell len_fSt2 i 0 HX.out rfl
       simp at x0
       have j0' : (0 : Int) ≤ (k : Int) := by omega
       have j1' : (k : Int) < (q : Int) := by omega
       have hold : nv = at' ∧ ∀ (j : Nat) (x : KidD), j < k → ks[j]? = some x → sEq x.name nm = false := by
         rcases hS.out with ⟨_, h1, h2⟩ | ⟨h, _⟩
         · exact ⟨h1, h2⟩
         · cases h
       have HXX := Lib.hid hx
       have HOLD := Lib.hid hold
       clear hx hold hS hdone
       cases heq : (x.name.toList == nm.toList) with
       | true =>
         have HS2 := Lib.hid (show Seek ks nm at' (k + 1) true x.node from .inr ⟨rfl, k, x, rfl, HXX.out, heq, HOLD.out.2⟩)
         go_wp2_with fail
         go_quiet (fail)
         go_wp2_with fail
         go_roundw
         case rel => exact ⟨k + 1, true, x.node, by omega, by go_num, rfl, rfl, HS2, h4.drewN _, k4.drewN _⟩
         case measure => simp [intOf]; omega
       | false =>
         have HS2 := Lib.hid (show Seek ks nm at' (k + 1) false nv from .inl ⟨rfl, HOLD.out.1, fun j y hj hy => by
           by_cases e : j = k
           · subst e; rw [HXX.out] at hy; cases hy; exact heq
           · exact HOLD.out.2 j y (by omega) hy⟩)
         go_wp2_with fail
         go_quiet (fail)
         go_wp2_with fail
         go_roundw
         case rel => exact ⟨k + 1, false, nv, by omega, by go_num, rfl, rfl, HS2, h4.drewN _, k4.drewN _⟩
         case measure => simp [intOf]; omega
     have hend : fnd = true ∨ k = q := by
       cases fnd with
       | true => exact .inl rfl
       | false => exact .inr (by have : ¬ k < q := fun h => hgo ⟨rfl, h⟩; omega)
     have hres := hdone hend
     clear hdone hS hgo
     have h5 := ((h4.tail.pull 1))
     rcases hres with ⟨rfl, hno⟩ | ⟨rfl, hfk, hmin⟩
     · have hkq2 : k = q := by rcases hend with h | h; (cases h); exact h
       subst hkq2
       have hfin := hI.out 0 9 (.inl ⟨rfl, rfl, hno⟩)
       have HFIN := Lib.hid hfin
       clear hfin hno hend
       go_wp2_with fail
       go_ret2
       exact ⟨_, _, .inr ⟨nms, HP.out, HFIN.out⟩, rfl, h5.tail, k4⟩
     · have HI2 := Lib.hid (show ∀ a er, FindR f nv (nms.drop (i + 1)) a er → FindR f 0 nms a er from fun a er h => hI.out a er (.inr ⟨nv, hfk, hmin, h⟩))
       clear hfk hmin hend
       by_cases hkl : k < q
       all_goals
         go_wp2_with fail
         go_roundw
         case rel => exact ⟨i + 1, nv, by omega, by go_num, rfl, HI2, h5, k4⟩
         case measure => simp [intOf]; omega
theorem ref_answerV {w : World} {l : List HProp} {vl : Value} {L : List KidD} {f : Int → Option Loc} {num : Int} {list : Bool} {path : ByteArray} (hs : Sat w (poolP fK [(vl, L)] :: l)) (hE : EnumK f L) (hL : L.length ≤ 1000) :
   Calls Tryz.prog 37 #[vl, .int .i64 num, .bool list, .string path] w fun x w' => ∃ a e v, FindA f path a e ∧ x = .returned (.agg #[.int .i64 e, .int .i64 num, .int .i64 a, v, .slice none 0 0]) ∧ Sat w' (rowT fK v 73 3 (kidsA L list a e) :: poolP fK [(vl, L)] :: l) ∧ Kp w w' := by
 obtain ⟨lao, lcap, rfl, _⟩ := hs.poolArg (v := vl) (ks := L) (by simp)
 have hR := hs.alloc (.cells #[.int .i64 0, .int .i64 0, .int .i64 0, .slice none 0 0, .slice none 0 0] 28)
 have kR := (Kp.refl w).alloc (.cells #[.int .i64 0, .int .i64 0, .int .i64 0, .slice none 0 0, .slice none 0 0] 28)
 have hnd : L.Nodup := nodup_nodes hE.nodup
 go_enter Tryz.func37, Tryz.ntmps37
 go_upto_region 1 with (fail)
 generalize World.alloc _ _ = w1 at hR kR ⊢
 generalize w.heap.size = R at hR ⊢
 have hT := (hR.alloc (.cells #[.slice lao L.length lcap, .slice none 0 0] 150))
 have kT := kR.alloc (.cells #[.slice lao L.length lcap, .slice none 0 0] 150)
 clear hR
 go_upto_region 2 with (fail)
 generalize World.alloc _ _ = w2 at hT kT ⊢
 generalize w1.heap.size = t at hT ⊢
 have hP : Sat w2 (refV t (.slice lao L.length lcap) L :: own R (.cells #[.int .i64 0, .int .i64 0, .int .i64 0, .slice none 0 0, .slice none 0 0] 28 (0, 0)) :: l) := refV_I (vs := []) rfl ((((hT.tNil fV 26 1).pull 3).pull 1).pull 2)
 clear hT kR
 have hfi := refV_find_any path hP hE hL
 clear hP
 go_wp2_with fail
 refine hfi.mono ?_
 rintro x w3 ⟨a, e, hFA, rfl, h3, k3⟩
 clear hfi
 have hO := h3.alloc (.cells #[.int .i64 e, .int .i64 num, .int .i64 0, .slice none 0 0, .slice none 0 0] 28)
 have kO := (kT.trans k3).alloc (.cells #[.int .i64 e, .int .i64 num, .int .i64 0, .slice none 0 0, .slice none 0 0] 28)
 go_upto_region 4 with (fail)
 generalize World.alloc _ _ = w4 at hO kO ⊢
 generalize w3.heap.size = O at hO ⊢
 clear h3 kT k3
 have hol := hO.lt
 have hrl := (hO.pull 2).lt
 have hne := ((hO.pull 2).pull 1).ne
 have hne' := hne.symm
 rcases hFA.ends with rfl | ⟨rfl, he⟩
 · have HFA := Lib.hid hFA
   clear hFA
   cases list with
   | false =>
     have o0 := (hO).cell 0
     have o1 := (hO).cell 1
     have o3 := (hO).cell 3
     have o4 := (hO).cell 4
     simp at o0 o1 o3 o4
     have q2 := (hO).cell 2
     have qf2 := (hO).free 2
     simp at q2
     have r0 := (hO.pull 2).cell 0
     have r1 := (hO.pull 2).cell 1
     have r2 := (hO.pull 2).cell 2
     have r3 := (hO.pull 2).cell 3
     have r4 := (hO.pull 2).cell 4
     have rf0 := (hO.pull 2).free 0
     have rf1 := (hO.pull 2).free 1
     have rf2 := (hO.pull 2).free 2
     have rf3 := (hO.pull 2).free 3
     have rf4 := (hO.pull 2).free 4
     simp at r0 r1 r2 r3 r4
     have hF := (((((hO.set 2 (.int .i64 a)).pull 2).set 0 (.int .i64 0)).set 1 (.int .i64 num)).set 2 (.int .i64 a)).set 3 (.slice none 0 0) |>.set 4 (.slice none 0 0)
     have kF := (((((kO.setCell ⟨O, 2, none⟩ (.int .i64 a)).setCell ⟨R, 0, none⟩ (.int .i64 0)).setCell ⟨R, 1, none⟩ (.int .i64 num)).setCell ⟨R, 2, none⟩ (.int .i64 a)).setCell ⟨R, 3, none⟩ (.slice none 0 0)).setCell ⟨R, 4, none⟩ (.slice none 0 0)
     go_wp2_with fail
     refine bodyPost_ret (v := .agg #[.int .i64 0, .int .i64 num, .int .i64 a, .slice none 0 0, .slice none 0 0]) (by simp [results, Tryz.results37, go_sem, r0, rf0, r1, rf1, r2, rf2, r3, rf3, r4, rf4]) rfl ⟨a, 0, _, HFA.out, rfl, ?_, kF⟩
     have e0 : kidsA L false a 0 = [] := by unfold kidsA; simp
     rw [e0]
     exact (refV_pool hF.tail.tail).tNil _ _ _
   | true =>
     have hki := fun (W : World) (l' : List HProp) (hW : Sat W (refV t (.slice lao L.length lcap) L :: l')) => refV_kids (n := a) hW hnd hL
     have HKI := Lib.hid hki
     have hO2 := (hO.set 2 (.int .i64 a)).pull 1
     have kO2 := kO.setCell ⟨O, 2, none⟩ (.int .i64 a)
     have hk2 := hki _ _ hO2
     have q2 := (hO).cell 2
     have qf2 := (hO).free 2
     simp at q2
     clear hki HKI hO kO hO2
     go_wp2_with fail
     refine hk2.mono ?_
     rintro x w5 ⟨v, rfl, h5, k5⟩
     obtain ⟨kao, kcap, rfl⟩ := h5.tLen
     clear hk2 q2 qf2 hol hrl
     generalize hks : isort klt (L.filter fun k => k.up == a) = ks at h5 ⊢
     have o0 := (h5.pull 2).cell 0
     have o1 := (h5.pull 2).cell 1
     have o2 := (h5.pull 2).cell 2
     have o4 := (h5.pull 2).cell 4
     simp at o0 o1 o2 o4
     have q3 := (h5.pull 2).cell 3
     have qf3 := (h5.pull 2).free 3
     simp at q3
     have r0 := (h5.pull 3).cell 0
     have r1 := (h5.pull 3).cell 1
     have r2 := (h5.pull 3).cell 2
     have r3 := (h5.pull 3).cell 3
     have r4 := (h5.pull 3).cell 4
     have rf0 := (h5.pull 3).free 0
     have rf1 := (h5.pull 3).free 1
     have rf2 := (h5.pull 3).free 2
     have rf3 := (h5.pull 3).free 3
     have rf4 := (h5.pull 3).free 4
     simp at r0 r1 r2 r3 r4
     have hol := (h5.pull 2).lt
     have hrl := (h5.pull 3).lt
     have hF := ((((((h5.pull 2).set 3 (.slice kao ks.length kcap)).pull 3).set 0 (.int .i64 0)).set 1 (.int .i64 num)).set 2 (.int .i64 a)).set 3 (.slice kao ks.length kcap) |>.set 4 (.slice none 0 0)
     have kF := ((((((kO2.trans k5).setCell ⟨O, 3, none⟩ (.slice kao ks.length kcap)).setCell ⟨R, 0, none⟩ (.int .i64 0)).setCell ⟨R, 1, none⟩ (.int .i64 num)).setCell ⟨R, 2, none⟩ (.int .i64 a)).setCell ⟨R, 3, none⟩ (.slice kao ks.length kcap)).setCell ⟨R, 4, none⟩ (.slice none 0 0)
     go_wp2_with fail
     refine bodyPost_ret (v := .agg #[.int .i64 0, .int .i64 num, .int .i64 a, .slice kao ks.length kcap, .slice none 0 0]) (by simp [results, Tryz.results37, go_sem, r0, rf0, r1, rf1, r2, rf2, r3, rf3, r4, rf4]) rfl ⟨a, 0, _, HFA.out, rfl, ?_, kF⟩
     have e0 : kidsA L true a 0 = ks := by unfold kidsA; rw [if_pos ⟨rfl, rfl⟩]; exact hks
     rw [e0]
     exact (refV_pool hF.tail.tail.swap).swap
 · have HFA := Lib.hid hFA
   clear hFA
   have he1 : (e != 0) = true := by simpa using he
   have o0 := (hO).cell 0
   have o1 := (hO).cell 1
   have o2 := (hO).cell 2
   have o3 := (hO).cell 3
   have o4 := (hO).cell 4
   simp at o0 o1 o2 o3 o4
   have r0 := (hO.pull 2).cell 0
   have r1 := (hO.pull 2).cell 1
   have r2 := (hO.pull 2).cell 2
   have r3 := (hO.pull 2).cell 3
   have r4 := (hO.pull 2).cell 4
   have rf0 := (hO.pull 2).free 0
   have rf1 := (hO.pull 2).free 1
   have rf2 := (hO.pull 2).free 2
   have rf3 := (hO.pull 2).free 3
   have rf4 := (hO.pull 2).free 4
   simp at r0 r1 r2 r3 r4
   have hF := ((((hO.pull 2).set 0 (.int .i64 e)).set 1 (.int .i64 num)).set 2 (.int .i64 0)).set 3 (.slice none 0 0) |>.set 4 (.slice none 0 0)
   have kF := ((((kO.setCell ⟨R, 0, none⟩ (.int .i64 e)).setCell ⟨R, 1, none⟩ (.int .i64 num)).setCell ⟨R, 2, none⟩ (.int .i64 0)).setCell ⟨R, 3, none⟩ (.slice none 0 0)).setCell ⟨R, 4, none⟩ (.slice none 0 0)
   go_wp2_with fail
   refine bodyPost_ret (v := .agg #[.int .i64 e, .int .i64 num, .int .i64 0, .slice none 0 0, .slice none 0 0]) (by simp [results, Tryz.results37, go_sem, r0, rf0, r1, rf1, r2, rf2, r3, rf3, r4, rf4]) rfl ⟨0, e, _, HFA.out, rfl, ?_, kF⟩
   have e0 : kidsA L list 0 e = [] := by unfold kidsA; rw [if_neg (fun h => he h.2)]
   rw [e0]
   exact (refV_pool hF.tail.tail).tNil _ _ _
end Go.Proofs.YtddglbjhhnipgaaGreatDoor

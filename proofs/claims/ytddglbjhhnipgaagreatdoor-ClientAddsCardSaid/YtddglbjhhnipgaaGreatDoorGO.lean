import Derived.Test.YtddglbjhhnipgaaGreatDoorGN
import Derived.Test.YtddglbjhhnipgaaGreatDoorGH
import Derived.Test.YtddglbjhhnipgaaGreatDoorGD
import Derived.Test.YtddglbjhhnipgaaGreatDoorGK
import Derived.Test.YtddglbjhhnipgaaGreatDoorGL
namespace Go.Proofs.YtddglbjhhnipgaaGreatDoor
open Go Go.RowKit
set_option linter.unusedVariables false
set_option linter.unusedSimpArgs false
set_option maxRecDepth 100000
set_option maxHeartbeats 8000000
theorem nodup_nodes {L : List KidD} (h : (L.map KidD.node).Nodup) : L.Nodup := nodup_of_map KidD.node h
theorem refP_row {w : World} {l : List HProp} {t ao n cap} {L : List KidD} {Ws : List (List KidD)} (hc : w.cell? ⟨t, 0, none⟩ = some (.slice ao n cap)) (hs : Sat w (refP t L Ws :: l)) : ArgRow w fK ao n cap L := by
 obtain ⟨ao', cap', c0, ha, _⟩ := refP_L hs
 rw [hc] at c0
 simp only [Option.some.injEq, Value.slice.injEq] at c0
 obtain ⟨rfl, rfl, rfl⟩ := c0
 exact ha
theorem ref_kids {w : World} {l : List HProp} {t : Nat} {L : List KidD} {Ws : List (List KidD)} {n : Int} (hs : Sat w (refP t L Ws :: l)) (hnd : L.Nodup) (hL : L.length ≤ 1000) :
   Calls Tryz.prog 78 #[.pointer (some ⟨t, 0, none⟩), .int .i64 n] w fun e w' => ∃ v, e = .returned v ∧ Sat w' (rowT fK v 73 3 (isort klt (L.filter fun k => k.up == n)) :: refP t L Ws :: l) ∧ Kp w w' := by
 obtain ⟨i1, hj, hy0, hy1, hy2⟩ := info_parts Tryz.infoKid
 obtain ⟨v, vw, vs, hl, h⟩ := refP_E hs
 obtain ⟨ao, cap, rfl, _⟩ := (h.pull 2).poolArg (v := v) (ks := L) (List.mem_cons_self ..)
 obtain ⟨m, hm⟩ : ∃ m, m = L.length := ⟨_, rfl⟩
 rw [← hm] at h hL
 have HM := Lib.hid hm
 have HL := Lib.hid hl
 have HD := Lib.hid hnd
 have hL' : (m : Int) ≤ 1000 := by omega
 clear hm hl hnd hs
 have h0 := h.tNil fK 73 3
 go_enter Tryz.func78, Tryz.ntmps78
 go_wp2_with fail
 go_loopw [5, 6] (fun ov iv wr => ∃ i : Nat, i ≤ m ∧ iv = .int .i64 i ∧ Sat wr (rowT fK ov 73 3 ((L.take i).filter fun k => k.up == n) :: own t (.cells #[.slice ao m cap, vw] 150 (0, 0)) :: rowT fV vw 26 1 vs :: poolP fK ((.slice ao m cap, L) :: vs.zip Ws) :: l) ∧ Kp w wr) (fun _ iv _ => m - (intOf iv).toNat)
 case atStart => exact ⟨0, by omega, rfl, h0, Kp.refl w⟩
 case round =>
   clear h0 h
   obtain ⟨i, him, rfl, h1, k1⟩ := hrel
   have c0 := (h1.pull 1).cell 0
   simp at c0
   have har := (h1.pull 3).poolArg' (List.mem_cons_self ..)
   have hfl : ((L.take i).filter fun k => k.up == n).length ≤ i := Nat.le_trans (List.length_filter_le _ _) (List.length_take_le _ _)
   by_cases hlt : i < m
   case neg =>
     obtain rfl : m = i := by omega
     have e1 : L.take m = L := List.take_of_length_le (by rw [HM.out]; exact Nat.le_refl _)
     rw [e1] at h1 hfl
     have hnd2 : (L.filter fun k => k.up == n).Nodup := HD.out.filter _
     have hso : ∀ ao' n' cap', u5 = .slice ao' n' cap' → _ := fun ao' n' cap' e => ref_sorted (ao := ao') (n := n') (cap := cap') h1 (fun w' h' => by
       obtain ⟨ao2, cap2, e2, ha2⟩ := h'.argRow
       rw [e] at e2
       simp only [Value.slice.injEq] at e2
       obtain ⟨rfl, rfl, rfl⟩ := e2
       exact ha2) hnd2 (by
       obtain ⟨ao2, cap2, e2, ha2⟩ := h1.argRow
       rw [e] at e2
       simp only [Value.slice.injEq] at e2
       obtain ⟨rfl, rfl, rfl⟩ := e2
       omega)
     obtain ⟨oao, ocap, ho⟩ := h1.tLen
     have hso2 := hso _ _ _ ho
     generalize (L.filter fun k => k.up == n).length = q at ho hso2
     subst ho
     have HS := Lib.hid hso2
     clear hso hso2 hnd2 hfl har e1
     go_wp2_with fail
     refine HS.out.mono ?_
     rintro e w2 ⟨v', rfl, h2, k2⟩
     go_wp2_with fail
     go_ret
     exact ⟨v', rfl, (refP_I HL.out ((((h2.pull 1).tail).push 3))).swap, k1.trans k2⟩
   obtain ⟨x, hx⟩ : ∃ x, L[i]? = some x := ⟨_, List.getElem?_eq_getElem (by rw [← HM.out]; exact hlt)⟩
   obtain ⟨ab, off, rfl⟩ := har.some hlt
   have x0 := har.cell len_fK 0 rfl hx rfl
   have x1 := har.cell len_fK 1 rfl hx rfl
   have x2 := har.cell len_fK 2 rfl hx rfl
   rw [Nat.add_zero] at x0
   have i0' : (0 : Int) ≤ (i : Int) := by omega
   have i1' : (i : Int) < (m : Int) := by omega
   have HTK := Lib.hid (show (L.take (i + 1)).filter (fun k => k.up == n) = (L.take i).filter (fun k => k.up == n) ++ (if x.up == n then [x] else []) by
     rw [take_snoc' hx, List.filter_append]
     congr 1
     cases hb : x.up == n <;> simp [hb])
   obtain ⟨q, hq⟩ : ∃ q, ((L.take i).filter fun k => k.up == n).length = q := ⟨_, rfl⟩
   obtain ⟨oao, ocap, ho⟩ := h1.tLen
   rw [hq] at ho hfl
   subst ho
   have HQ := Lib.hid hq
   clear hx hq
   cases hb : x.up == n with
   | false =>
     have HTK2 := Lib.hid (show (L.take (i + 1)).filter (fun k => k.up == n) = (L.take i).filter (fun k => k.up == n) by rw [HTK.out, hb]; simp)
     go_wp2_with fail
     go_roundw
     case rel => exact ⟨i + 1, by omega, by go_num, by rw [HTK2.out]; exact h1, k1⟩
     case measure => simp [intOf]; omega
   | true =>
     have HTK2 := Lib.hid (show (L.take (i + 1)).filter (fun k => k.up == n) = (L.take i).filter (fun k => k.up == n) ++ [x] by rw [HTK.out, hb]; rfl)
     have hX := h1.alloc (.cells #[.int .i64 x.up, .string x.name, .int .i64 x.node] 73)
     have kX := k1.alloc (.cells #[.int .i64 x.up, .string x.name, .int .i64 x.node] 73)
     have e2 : rowT fK (.slice oao q ocap) 73 3 ((L.take i).filter fun k => k.up == n) = row (.slice oao q ocap) 73 3 q (((L.take i).filter fun k => k.up == n).flatMap fK) := by unfold rowT; rw [HQ.out]
     rw [e2] at hX
     clear e2
     go_wp2_with (at_builtin; refine wpList_append_lit rfl (.tmp 26) (.tmp 34) 26 rfl 73 i1 _ 3 32 Tryz.underlying26 hj hy0 hy1 hy2 rfl (by decide) _ _ _ _ _ _ _ rfl (hX.pull 1) 1 1 rfl rfl rfl ?c3 ?c4 ?c5)
     case c3 => unfold maxLen; omega
     case c4 => omega
     case c5 =>
       intro v' w5 hs5 hk5
       rw [← HQ.out] at hs5
       have h7 := Sat.tSnoc (f := fK) (x := x) hs5 rfl
       rw [← HTK2.out] at h7
       have h8 := (h7.pull 1).tail
       clear hs5 h7 hX h1 x0 x1 x2
       go_wp2_with fail
       go_roundw
       case rel => exact ⟨i + 1, by omega, by go_num, h8, kX.trans hk5⟩
       case measure => simp [intOf]; omega
theorem Tryz.infoKs : (Tryz.prog.info? 26).map (fun i => (i.zero, i.size, i.bytes)) = some (some (.slice none 0 0), 1, 24) := by kernel_rfl
/-- Which nodes an operation leaves. -/
noncomputable def putL (L : List KidD) (o : OpD) (b : Bool) : List KidD := if b then (L.filter fun k => k.node != o.node) ++ [⟨o.up, o.name, o.node⟩] else L
theorem enumk_put {f : Int → Option Loc} {L : List KidD} (h : EnumK f L) (o : OpD) (b : Bool) : EnumK (applied f o b) (putL L o b) := by
 cases b with
 | false => exact h
 | true =>
   show EnumK (upd f o.node (some ⟨o.up, o.name⟩)) ((L.filter fun k => k.node != o.node) ++ [⟨o.up, o.name, o.node⟩])
   refine ⟨fun k hk => ?_, ?_, fun n l hn => ?_⟩
   · rcases List.mem_append.1 hk with hk | hk
     · obtain ⟨h1, h2⟩ := List.mem_filter.1 hk
       rw [upd_other (by simpa using h2)]
       exact h.mem k h1
     · obtain rfl := List.mem_singleton.1 hk
       exact upd_same _ _ _
   · rw [List.map_append]
     refine List.nodup_append.2 ⟨?_, by simp, fun a ha b hb => ?_⟩
     · exact List.Sublist.nodup (List.Sublist.map _ (List.filter_sublist ..)) h.nodup
     · obtain ⟨k, hk, rfl⟩ := List.mem_map.1 ha
       have h2 := (List.mem_filter.1 hk).2
       simp at hb
       subst hb
       simpa using h2
   · by_cases e : n = o.node
     · subst e
       rw [upd_same] at hn
       cases hn
       simp
     · rw [upd_other e] at hn
       refine List.mem_append_left _ (List.mem_filter.2 ⟨h.all n l hn, ?_⟩)
       simpa using e
theorem zip_snoc {α β : Type} : ∀ {a : List α} {b : List β} (x : α) (y : β), a.length = b.length → (a ++ [x]).zip (b ++ [y]) = a.zip b ++ [(x, y)]
 | [], [], x, y, _ => rfl
 | a :: a', b :: b', x, y, h => by
   have := zip_snoc (a := a') (b := b') x y (by simpa using h)
   simp [this]
theorem ref_apply_no {w : World} {l : List HProp} {t : Nat} (o : OpD) (hs : Sat w l) (hz : o.name.size ≤ 1000) (hro : rightO o = false) :
   Calls Tryz.prog 99 #[.pointer (some ⟨t, 0, none⟩), aggO o] w fun e w' => e = .returned (.bool false) ∧ Sat w' l ∧ Kp w w' := by
 have hB := hs.alloc (.cells #[.int .i64 o.n, .int .i64 o.r, .int .i64 o.node, .int .i64 o.up, .string o.name] 88)
 have kB := (Kp.refl w).alloc (.cells #[.int .i64 o.n, .int .i64 o.r, .int .i64 o.node, .int .i64 o.up, .string o.name] 88)
 simp only [aggO]
 go_enter Tryz.func99, Tryz.ntmps99
 go_upto_region 1 with (fail)
 generalize World.alloc _ _ = w1 at hB kB ⊢
 generalize w.heap.size = B at hB ⊢
 have b0 := hB.cell 0
 have b1 := hB.cell 1
 have b2 := hB.cell 2
 have b3 := hB.cell 3
 have b4 := hB.cell 4
 simp at b0 b1 b2 b3 b4
 have hri := ref_right o hB hz
 rw [hro] at hri
 simp only [aggO] at hri
 clear hro
 go_wp2_with fail
 refine hri.mono ?_
 rintro e w2 ⟨rfl, h2, k2⟩
 clear hri
 go_wp2_with fail
 go_ret
 exact ⟨rfl, h2.tail, kB.trans k2⟩
theorem ref_apply_yes {w : World} {l : List HProp} {t : Nat} {L : List KidD} {Ws : List (List KidD)} {f : Int → Option Loc} (o : OpD) {r : Bool} (hs : Sat w (refP t L Ws :: l)) (hE : EnumK f L) (hL : L.length ≤ 100) (hW : Ws.length ≤ 100) (hz : o.name.size ≤ 1000) (hR : ∀ b k, Reach f b k → k ≤ L.length) (hA : Acyc f) (hro : rightO o = true) (hr : r = can f o) :
   Calls Tryz.prog 99 #[.pointer (some ⟨t, 0, none⟩), aggO o] w fun e w' => e = .returned (.bool r) ∧ Sat w' (refP t (putL L o r) (Ws ++ [L]) :: l) ∧ Kp w w' := by
 obtain ⟨i1, hj, hy0, hy1, hy2⟩ := info_parts Tryz.infoKid
 obtain ⟨i2, hi, hz0, hz1, hz2⟩ := info_parts Tryz.infoKs
 obtain ⟨k0, hk0⟩ := hA o.up
 have HE := Lib.hid hE
 have HK := Lib.hid hk0
 have HR := Lib.hid (hR _ _ hk0)
 have HC := Lib.hid hr
 clear hE hk0 hR hA hr
 obtain ⟨m, hm⟩ : ∃ m, m = L.length := ⟨_, rfl⟩
 have HM := Lib.hid hm
 have HLL := Lib.hid hL
 rw [← hm] at hL
 have hL' : (m : Int) ≤ 100 := by omega
 clear hm
 have hB := hs.alloc (.cells #[.int .i64 o.n, .int .i64 o.r, .int .i64 o.node, .int .i64 o.up, .string o.name] 88)
 have kB := (Kp.refl w).alloc (.cells #[.int .i64 o.n, .int .i64 o.r, .int .i64 o.node, .int .i64 o.up, .string o.name] 88)
 simp only [aggO]
 go_enter Tryz.func99, Tryz.ntmps99
 go_upto_region 1 with (fail)
 generalize World.alloc _ _ = w1 at hB kB ⊢
 generalize w.heap.size = B at hB ⊢
 have b0 := hB.cell 0
 have b1 := hB.cell 1
 have b2 := hB.cell 2
 have b3 := hB.cell 3
 have b4 := hB.cell 4
 simp at b0 b1 b2 b3 b4
 have hri := ref_right o hB hz
 rw [hro] at hri
 simp only [aggO] at hri
 clear hro hs
 go_wp2_with fail
 refine hri.mono ?_
 rintro e w2 ⟨rfl, h2, k2⟩
 have k2 := kB.trans k2
 clear hri b0 b1 b2 b3 b4 hB kB
 obtain ⟨v, vw, vs, hl, h3⟩ := refP_E (h2.pull 1)
 obtain ⟨ao, cap, hv, _⟩ := (h3.pull 2).poolArg (v := v) (ks := L) (List.mem_cons_self ..)
 rw [← HM.out] at hv
 subst hv
 obtain ⟨wao, wcap, hvw⟩ := (h3.pull 1).tLen
 obtain ⟨q, hq⟩ : ∃ q, q = vs.length := ⟨_, rfl⟩
 have hq2 : q ≤ 100 := by rw [hq, hl]; exact hW
 rw [← hq] at hvw
 subst hvw
 have HQ := Lib.hid hq
 have HVL := Lib.hid hl
 clear hq hl h2 hW
 have t0 := h3.cell 0
 have t1 := h3.cell 1
 have f1 := h3.free 1
 have htl := h3.lt
 simp at t0 t1
 have e2 : rowT fV (.slice wao q wcap) 26 1 vs = row (.slice wao q wcap) 26 1 q (vs.flatMap fV) := by unfold rowT; rw [HQ.out]
 have h4 := h3
 rw [e2] at h4
 clear e2
 go_upto_region 4 with (fail)
 go_cut [5] from 14 to 26 (fun v wx => v = .bool true ∧ Sat wx (refP t L (Ws ++ [L]) :: own B (.cells #[.int .i64 o.n, .int .i64 o.r, .int .i64 o.node, .int .i64 o.up, .string o.name] 88 (0, 0)) :: l) ∧ Kp w wx)
 case first =>
   go_region_law ((refine step_append_lit (by rfl) (.tmp 18) (.tmp 23) 148 (by rfl) 26 i2 _ 1 24 Tryz.underlying148 hi hz0 hz1 hz2 (by rfl) (by omega) _ _ _ _ _ _ _ (by rfl) (Sat.pull 2 (h4.drew.alloc (.cells #[.slice ao m cap] 26))) 0 1 (by rfl) (by rfl) (by rfl) (by unfold maxLen; omega) (by omega) ?_; intro g off q' cap' w6 h6 k6; have e1 := (h6.pull 2).cell 1; have e2 := (h6.pull 2).free 1; simp at e1))
   all_goals
     go_wp2_with fail
     go_meet
     case rel =>
       rw [show q + (0 + 1) = vs.length + 1 by rw [HQ.out]] at h6
       have h7 := Sat.tSnoc (f := fV) (x := .slice ao m cap) h6 rfl
       have h8 := (((h7.pull 2).set 1 (.slice (some ⟨g, off, none⟩) q' cap')).pull 2).tail
       have hz2 := zip_snoc (.slice ao m cap) L HVL.out
       refine ⟨rfl, ?_, ((k2.drew.alloc _).trans k6).setCell _ _⟩
       refine refP_I (v := .slice ao m cap) (vw := .slice (some ⟨g, off, none⟩) q' cap') (vs := vs ++ [.slice ao m cap]) (by rw [List.length_append, List.length_append, HVL.out]; rfl) ?_
       exact ((h8.pull 2).poolSub (fun p hp => by
         rw [hz2] at hp
         rcases List.mem_cons.1 hp with rfl | hp
         · exact List.mem_cons_self ..
         · rcases List.mem_append.1 hp with hp | hp
           · exact List.mem_cons_of_mem _ hp
           · obtain rfl := List.mem_singleton.1 hp
             exact List.mem_cons_self ..)).push 2
 case rest =>
   clear h3 h4 t0 t1 f1 k2 htl hq2 HQ HVL
   obtain ⟨rfl, h2, k2⟩ := hcut
   have hkn := ref_known (n := o.up) h2 HE.out (by have := HLL.out; omega)
   have b2 := (h2.pull 1).cell 2
   have b3 := (h2.pull 1).cell 3
   simp at b2 b3
   have hab := ref_above (a := o.node) (b := o.up) (r := known f o.up && above f o.node o.up) h2 HE.out (by have := HLL.out; omega) HK.out HR.out (by rw [Bool.and_eq_true, above_iff])
   have hrr : r = (known f o.up && !above f o.node o.up) := HC.out
   generalize known f o.up = q1 at hkn hab hrr
   generalize above f o.node o.up = q2 at hab hrr
   have HRR := Lib.hid hrr
   clear hrr
   go_wp2_with fail
   refine hkn.mono ?_
   rintro e w4 ⟨rfl, rfl⟩
   go_wp2_with fail
   refine hab.mono ?_
   rintro e w4 ⟨rfl, rfl⟩
   clear hkn hab
   cases q1 with
   | false =>
     go_wp2_with fail
     have hrr := HRR.out
     simp at hrr
     subst hrr
     go_ret
     exact ⟨rfl, (h2.pull 1).tail, k2⟩
   | true =>
     cases q2 with
     | true =>
       go_wp2_with fail
       have hrr := HRR.out
       simp at hrr
       subst hrr
       go_ret
       exact ⟨rfl, (h2.pull 1).tail, k2⟩
     | false =>
       have hrr := HRR.out
       simp at hrr
       subst hrr
       clear HRR HC b2 b3
       obtain ⟨v, vw, vs, hl, h3⟩ := refP_E h2
       obtain ⟨ao2, cap2, hv, _⟩ := (h3.pull 2).poolArg (v := v) (ks := L) (List.mem_cons_self ..)
       rw [← HM.out] at hv
       subst hv
       have HVL := Lib.hid hl
       clear hl h2
       have h4 := h3.tNil fK 73 3
       clear h3
       go_wp2_with fail
       go_loopw [8, 9] (fun ov iv wr => ∃ i : Nat, i ≤ m ∧ iv = .int .i64 i ∧ Sat wr (rowT fK ov 73 3 ((L.take i).filter fun k => k.node != o.node) :: own t (.cells #[.slice ao2 m cap2, vw] 150 (0, 0)) :: rowT fV vw 26 1 vs :: poolP fK ((.slice ao2 m cap2, L) :: vs.zip (Ws ++ [L])) :: own B (.cells #[.int .i64 o.n, .int .i64 o.r, .int .i64 o.node, .int .i64 o.up, .string o.name] 88 (0, 0)) :: l) ∧ Kp w wr) (fun _ iv _ => m - (intOf iv).toNat)
       case atStart => exact ⟨0, by omega, rfl, h4, k2⟩
       case round =>
         clear h4 k2
         obtain ⟨i, him, rfl, h1, k1⟩ := hrel
         have c0 := (h1.pull 1).cell 0
         have b1 := (h1.pull 4).cell 1
         have b2 := (h1.pull 4).cell 2
         have b3 := (h1.pull 4).cell 3
         have b4 := (h1.pull 4).cell 4
         simp at c0 b2 b3 b4
         have hBl := (h1.pull 4).lt
         have htl := (h1.pull 1).lt
         have har := (h1.pull 3).poolArg' (List.mem_cons_self ..)
         have hfl : ((L.take i).filter fun k => k.node != o.node).length ≤ i := Nat.le_trans (List.length_filter_le _ _) (List.length_take_le _ _)
         obtain ⟨q, hq⟩ : ∃ q, ((L.take i).filter fun k => k.node != o.node).length = q := ⟨_, rfl⟩
         obtain ⟨oao, ocap, ho⟩ := h1.tLen
         rw [hq] at ho hfl
         subst ho
         have HQ := Lib.hid hq
         have e2 : rowT fK (.slice oao q ocap) 73 3 ((L.take i).filter fun k => k.node != o.node) = row (.slice oao q ocap) 73 3 q (((L.take i).filter fun k => k.node != o.node).flatMap fK) := by unfold rowT; rw [hq]
         have hX0 := h1
         rw [e2] at hX0
         clear e2
         clear hq
         by_cases hlt : i < m
         case neg =>
           obtain rfl : m = i := by omega
           have e1 : L.take m = L := List.take_of_length_le (by rw [HM.out]; exact Nat.le_refl _)
           have HE1 := Lib.hid e1
           have hX := hX0.alloc (.cells #[.int .i64 o.up, .string o.name, .int .i64 o.node] 73)
           have kX := k1.alloc (.cells #[.int .i64 o.up, .string o.name, .int .i64 o.node] 73)
           clear e1 har
           go_wp2_with (at_builtin; refine wpList_append_lit rfl (.tmp 73) (.tmp 81) 26 rfl 73 i1 _ 3 32 Tryz.underlying26 hj hy0 hy1 hy2 rfl (by decide) _ _ _ _ _ _ _ rfl (hX.pull 1) 1 1 rfl rfl rfl ?c3 ?c4 ?c5)
           case c3 => unfold maxLen; omega
           case c4 => omega
           case c5 =>
             intro v' w5 hs5 hk5
             rw [← HQ.out] at hs5
             have h7 := Sat.tSnoc (f := fK) (x := ⟨o.up, o.name, o.node⟩) hs5 rfl
             rw [HE1.out] at h7
             have h8 := (h7.pull 1).tail
             have t0 := (h8.pull 1).cell 0
             have f0 := (h8.pull 1).free 0
             simp at t0
             obtain ⟨vao, vcap, hv'⟩ := h8.tLen
             generalize ((L.filter fun k => k.node != o.node) ++ [(⟨o.up, o.name, o.node⟩ : KidD)]).length = vn at hv'
             subst hv'
             have h9 := (h8.pull 1).set 0 (.slice vao vn vcap)
             have k9 := (kX.trans hk5).setCell ⟨t, 0, none⟩ (.slice vao vn vcap)
             have h10 := ((h9.pull 3).pull 2).poolIn
             have h11 := (((h10.poolSub (ps' := (.slice vao vn vcap, (L.filter fun k => k.node != o.node) ++ [(⟨o.up, o.name, o.node⟩ : KidD)]) :: vs.zip (Ws ++ [L])) (fun p hp => by
               rcases List.mem_cons.1 hp with rfl | hp
               · exact List.mem_cons_self ..
               · exact List.mem_cons_of_mem _ (List.mem_cons_of_mem _ hp))).push 2).pull 3).tail
             have H11 := Lib.hid (refP_I HVL.out h11)
             clear hs5 h7 h8 h9 h10 h11 hX h1 hX0 c0 b1 b2 b3 b4
             go_wp2_with fail
             go_ret
             exact ⟨rfl, H11.out, k9⟩
         obtain ⟨x, hx⟩ : ∃ x, L[i]? = some x := ⟨_, List.getElem?_eq_getElem (by rw [← HM.out]; exact hlt)⟩
         obtain ⟨ab, off, rfl⟩ := har.some hlt
         have x0 := har.cell len_fK 0 rfl hx rfl
         have x1 := har.cell len_fK 1 rfl hx rfl
         have x2 := har.cell len_fK 2 rfl hx rfl
         rw [Nat.add_zero] at x0
         have i0' : (0 : Int) ≤ (i : Int) := by omega
         have i1' : (i : Int) < (m : Int) := by omega
         have HTK := Lib.hid (show (L.take (i + 1)).filter (fun k => k.node != o.node) = (L.take i).filter (fun k => k.node != o.node) ++ (if x.node != o.node then [x] else []) by
           rw [take_snoc' hx, List.filter_append]
           congr 1
           cases hb : x.node != o.node <;> simp [hb])
         clear hx
         cases hb : x.node != o.node with
         | false =>
           have HTK2 := Lib.hid (show (L.take (i + 1)).filter (fun k => k.node != o.node) = (L.take i).filter (fun k => k.node != o.node) by rw [HTK.out, hb]; simp)
           go_wp2_with fail
           go_quiet (fail)
           go_wp2_with fail
           go_roundw
           case rel => exact ⟨i + 1, by omega, by go_num, by rw [HTK2.out]; exact h1.drewN _, k1.drewN _⟩
           case measure => simp [intOf]; omega
         | true =>
           have HTK2 := Lib.hid (show (L.take (i + 1)).filter (fun k => k.node != o.node) = (L.take i).filter (fun k => k.node != o.node) ++ [x] by rw [HTK.out, hb]; rfl)
           go_wp2_with fail
           go_quiet (fail)
           have hX := (hX0.drewN nq).alloc (.cells #[.int .i64 x.up, .string x.name, .int .i64 x.node] 73)
           have kX := (k1.drewN nq).alloc (.cells #[.int .i64 x.up, .string x.name, .int .i64 x.node] 73)
           go_wp2_with (at_builtin; refine wpList_append_lit rfl (.tmp 62) (.tmp 70) 26 rfl 73 i1 _ 3 32 Tryz.underlying26 hj hy0 hy1 hy2 rfl (by decide) _ _ _ _ _ _ _ rfl (hX.pull 1) 1 1 rfl rfl rfl ?c3 ?c4 ?c5)
           case c3 => unfold maxLen; omega
           case c4 => omega
           case c5 =>
             intro v' w5 hs5 hk5
             rw [← HQ.out] at hs5
             have h7 := Sat.tSnoc (f := fK) (x := x) hs5 rfl
             rw [← HTK2.out] at h7
             have h8 := (h7.pull 1).tail
             clear hs5 h7 hX h1 x0 x1 x2
             go_wp2_with fail
             go_roundw
             case rel => exact ⟨i + 1, by omega, by go_num, h8, kX.trans hk5⟩
             case measure => simp [intOf]; omega
end Go.Proofs.YtddglbjhhnipgaaGreatDoor

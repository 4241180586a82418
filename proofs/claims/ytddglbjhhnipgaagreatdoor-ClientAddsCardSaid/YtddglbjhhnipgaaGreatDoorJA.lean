import Derived.Test.YtddglbjhhnipgaaGreatDoorIR
import Derived.Test.YtddglbjhhnipgaaGreatDoorIM
import Derived.Test.YtddglbjhhnipgaaGreatDoorIQ
import Derived.Test.YtddglbjhhnipgaaGreatDoorGM
import Derived.Test.YtddglbjhhnipgaaGreatDoorHN
namespace Go.Proofs.YtddglbjhhnipgaaGreatDoor
open Go Go.RowKit
set_option linter.unusedVariables false
set_option linter.unusedSimpArgs false
set_option maxRecDepth 100000
set_option maxHeartbeats 8000000
/-! ### a version of what operations come to -/
theorem letter_sizeV (j : Nat) : (letter j).size ≤ 1000 := by
 have : (letter j).size = 1 := rfl
 omega
theorem vgS {w : World} {l : List HProp} {V g off n cap i : Nat} {v : VerD} {ks : List KidD} {k : KidD} {A B C : HProp} {tv te : TypeId} (hk : ks[i]? = some k)
   (h : Sat w (A :: B :: C :: own V (.cells #[.int .i64 v.n, .int .i64 v.ks, .int .i64 v.kg, .int .i64 v.ss, .int .i64 v.sg] tv (0, 0)) :: rowT fCh (.slice (some ⟨g, off, none⟩) n cap) te 7 ks :: l)) :
   (w.cell? ⟨V, 0, none⟩ = some (.int .i64 v.n) ∧ w.cell? ⟨V, 1, none⟩ = some (.int .i64 v.ks) ∧ w.cell? ⟨V, 2, none⟩ = some (.int .i64 v.kg) ∧ w.cell? ⟨V, 3, none⟩ = some (.int .i64 v.ss) ∧ w.cell? ⟨V, 4, none⟩ = some (.int .i64 v.sg)) ∧
   (w.cell? ⟨g, off + i * 7, none⟩ = some (.int .i64 k.node) ∧ w.cell? ⟨g, off + i * 7 + 1, none⟩ = some (.bool false) ∧ w.cell? ⟨g, off + i * 7 + 2, none⟩ = some (.int .i64 0) ∧ w.cell? ⟨g, off + i * 7 + 3, none⟩ = some (.string ⟨#[]⟩) ∧ w.cell? ⟨g, off + i * 7 + 4, none⟩ = some (.bool true) ∧ w.cell? ⟨g, off + i * 7 + 5, none⟩ = some (.int .i64 k.up) ∧ w.cell? ⟨g, off + i * 7 + 6, none⟩ = some (.string k.name)) := by
 have hr := h.pull 4
 have h0 := hr.tCell len_fCh i 0 hk rfl
 rw [Nat.add_zero] at h0
 exact ⟨⟨(h.pull 3).cell 0, (h.pull 3).cell 1, (h.pull 3).cell 2, (h.pull 3).cell 3, (h.pull 3).cell 4⟩, h0, hr.tCell len_fCh i 1 hk rfl, hr.tCell len_fCh i 2 hk rfl, hr.tCell len_fCh i 3 hk rfl, hr.tCell len_fCh i 4 hk rfl, hr.tCell len_fCh i 5 hk rfl, hr.tCell len_fCh i 6 hk rfl⟩
theorem vgA1 {w9 : World} {l : List HProp} {c1 c2 : Array Value} {t1 t2 : TypeId} (h : Sat w9 l) : Sat ((w9.alloc (.cells c1 t1)).alloc (.cells c2 t2)) (own w9.heap.size (.cells c1 t1 (0, 0)) :: l) := ((h.alloc (.cells c1 t1)).alloc (.cells c2 t2)).tail
theorem vgA2 {w9 : World} {l : List HProp} {c1 c2 : Array Value} {t1 t2 : TypeId} (h : Sat w9 l) : Sat ((w9.alloc (.cells c1 t1)).alloc (.cells c2 t2)) (own (w9.heap.size + 1) (.cells c2 t2 (0, 0)) :: l) := by
 have h2 := ((h.alloc (.cells c1 t1)).alloc (.cells c2 t2)).swap.tail
 rw [World.size_alloc] at h2
 exact h2
theorem vgD {w9 : World} {l : List HProp} {c : Array Value} {t : TypeId} {n : Nat} (h : Sat w9 l) (hn : w9.heap.size = n) : Sat (w9.alloc (.cells c t)) (own n (.cells c t (0, 0)) :: l) := by
 subst hn
 exact h.alloc _
theorem vgE {w : World} {l : List HProp} {V t : Nat} {v : VerD} {vl vw : Value} {A : HProp} {tv tt : TypeId} (h : Sat w (A :: own V (.cells #[.int .i64 v.n, .int .i64 v.ks, .int .i64 v.kg, .int .i64 v.ss, .int .i64 v.sg] tv (0, 0)) :: own t (.cells #[vl, vw] tt (0, 0)) :: l)) :
   w.cell? ⟨V, 0, none⟩ = some (.int .i64 v.n) ∧ w.cell? ⟨V, 1, none⟩ = some (.int .i64 v.ks) ∧ w.cell? ⟨V, 2, none⟩ = some (.int .i64 v.kg) ∧ w.cell? ⟨V, 3, none⟩ = some (.int .i64 v.ss) ∧ w.cell? ⟨V, 4, none⟩ = some (.int .i64 v.sg) ∧ w.cell? ⟨t, 0, none⟩ = some vl :=
 ⟨(h.pull 1).cell 0, (h.pull 1).cell 1, (h.pull 1).cell 2, (h.pull 1).cell 3, (h.pull 1).cell 4, (h.pull 2).cell 0⟩
theorem vgP {w : World} {l : List HProp} {A B C : HProp} {ps : List (Value × List KidD)} {vl : Value} {L : List KidD} (h : Sat w (A :: B :: C :: poolP fK ((vl, L) :: ps) :: l)) : Sat w (A :: B :: C :: poolP fK [(vl, L)] :: l) :=
 ((h.pull 3).poolSub (ps' := [(vl, L)]) (fun p hp => by obtain rfl := List.mem_singleton.1 hp; simp)).push 3
/-- What grown leaves. -/
def GrownV (W : World) (os : List OpD) (num : Int) (l : List HProp) (w : World) (e : Ending) (w' : World) : Prop :=
 ∃ (s mk ms : Nat) (L : List KidD) (v : VerD) (vl : Value) (AK : List SlotK) (FK : List Int) (AS : List SlotS) (FS : List Int) (GK GS : Nat) (tK : HTK) (tS : HTS) (ks : List KidD),
   e = .returned (.tuple #[.pointer (some ⟨s, 0, none⟩), aggV v, vl]) ∧ EnumK (growT os).1 L ∧ EnumK (growT os).1 ks ∧ v.n = num ∧ VerR 2000 ks v AK FK AS FS GK GS tK tS ∧
   1000 ≤ roomA 2000 AK FK ∧ 1000 ≤ roomA 2000 AS FS ∧ GK ≤ 1000 ∧ GS ≤ 1000 ∧
   Sat w' (own s (.cells (stoC mk ms) 80 (0, 0)) :: mapK mk 2000 AK FK :: mapS ms 2000 AS FS :: poolP fK [(vl, L)] :: oldH W :: l) ∧ Kp w w'
theorem ver_grown {W w : World} {l : List HProp} {ao : Option Addr} {n cap : Nat} {ts : List TinyD} {num : Int} (hs : Sat w (oldH W :: l)) (ha : ArgRow W fT ao n cap ts) (hok : ∀ t ∈ ts, TinyOk t) (hn : n ≤ 30) :
   Calls Tryz.prog 32 #[.slice ao n cap, .int .i64 num] w (GrownV W (ts.map ofT) num l w) := by
 have HA := Lib.hid ha
 have HO := Lib.hid hok
 have hlen : (ts.map ofT).length = n := by rw [List.length_map]; exact ha.len
 have HLEN := Lib.hid hlen
 have HG := Lib.hid (grow_grown (ts.map ofT))
 have HZ := Lib.hid (show ∀ o ∈ ts.map ofT, o.name.size ≤ 1000 from fun o ho => by
   obtain ⟨t, _, rfl⟩ := List.mem_map.1 ho
   exact letter_sizeV _)
 have HP := Lib.hid (show ∀ o ∈ ts.map ofT, 0 ≤ o.node from fun o ho => by
   obtain ⟨t, ht, rfl⟩ := List.mem_map.1 ho
   show 0 ≤ 256 + t.node % 8
   omega)
 have H8 := Lib.hid (show ∀ o ∈ ts.map ofT, 256 ≤ o.node ∧ o.node < 264 from fun o ho => by
   obtain ⟨t, ht, rfl⟩ := List.mem_map.1 ho
   show 256 ≤ 256 + t.node % 8 ∧ 256 + t.node % 8 < 264
   omega)
 generalize hos : ts.map ofT = os at *
 have HOS := Lib.hid hos
 clear ha hok hlen hos
 have hR := hs.alloc (.cells #[.int .i64 0, .int .i64 0, .int .i64 0, .int .i64 0, .int .i64 0] 58)
 have kR := (Kp.refl w).alloc (.cells #[.int .i64 0, .int .i64 0, .int .i64 0, .int .i64 0, .int .i64 0] 58)
 clear hs
 go_enter Tryz.func32, Tryz.ntmps32
 go_upto_region 1 with (fail)
 generalize World.alloc _ _ = w1 at hR kR ⊢
 generalize w.heap.size = R at hR ⊢
 have hnw := view_new (most := 2000) hR (by decide) (by decide)
 clear hR
 go_wp2_with fail
 refine hnw.mono ?_
 rintro e w2 ⟨s, rfl, h2, k2⟩
 clear hnw
 have hV := h2.alloc (.cells #[.int .i64 num, .int .i64 0, .int .i64 0, .int .i64 0, .int .i64 0] 58)
 have kV := (kR.trans k2).alloc (.cells #[.int .i64 num, .int .i64 0, .int .i64 0, .int .i64 0, .int .i64 0] 58)
 clear h2 kR k2
 go_upto_region 3 with (fail)
 generalize World.alloc _ _ = w3 at hV kV ⊢
 generalize w2.heap.size = V at hV ⊢
 have hal := tiny_all (hV.pull 3) HA.out HO.out hn
 clear hV
 go_wp2_with fail
 refine hal.mono ?_
 rintro e w4 ⟨v1, rfl, h4, k4⟩
 clear hal
 rw [HOS.out] at h4
 obtain ⟨o1, c1, rfl⟩ := h4.tLen
 rw [HLEN.out] at h4 ⊢
 have hof := ref_of h4 (fun w' h => h.rowArg2 HLEN.out) HZ.out (by omega)
 clear h4
 go_wp2_with fail
 refine hof.mono ?_
 rintro e w5 ⟨t, L, Ws, rfl, hBo, h5, k5⟩
 clear hof
 have HB := Lib.hid hBo
 clear hBo
 have h6 := refP_new h5
 have k6 := (kV.trans (k4.trans k5)).alloc (.cells #[.slice none 0 0, .slice none 0 0] 150)
 clear kV k4 k5
 have hal2 := tiny_all (h6.pull 3) HA.out HO.out hn
 clear h6
 go_wp2_with fail
 refine hal2.mono ?_
 rintro e w7 ⟨v2, rfl, h7, k7⟩
 clear hal2
 rw [HOS.out] at h7
 obtain ⟨o2, c2, rfl⟩ := h7.tLen
 rw [HLEN.out] at h7 ⊢
 generalize w5.heap.size = t0 at h7 ⊢
 have hE := (both_facts HB.out).1
 have hL8 : L.length ≤ 8 := by
   have := nodup_le 8 256 (L.map KidD.node) hE.nodup (fun x hx => by
     obtain ⟨y, hy, rfl⟩ := List.mem_map.1 hx
     obtain ⟨h1, o, ho, h2⟩ := HG.out.dom y.node _ (hE.mem y hy)
     have := H8.out o ho
     omega)
   simpa using this
 have HE := Lib.hid hE
 have hch := ref_changes ((h7.pull 3).pull 3) (fun w' h => h.rowArg2 HLEN.out) HG.out hE (by omega) (by omega) HP.out
 clear h7 hE
 go_wp2_with fail
 refine hch.mono ?_
 rintro e w8 ⟨vc, ks, rfl, hEk, hkl, h8, k8⟩
 clear hch
 obtain ⟨oc, cc, rfl⟩ := h8.tLen
 obtain ⟨m, hm⟩ : ∃ m, m = ks.length := ⟨_, rfl⟩
 rw [← hm] at h8 hkl ⊢
 have HM := Lib.hid hm
 have HEK := Lib.hid hEk
 have hm8 : m ≤ 8 := by omega
 have hm8' : (m : Int) ≤ 8 := by omega
 have k9 := k6.trans (k7.trans k8)
 obtain ⟨mk, ms, h9⟩ := storeP_E (((((((h8.pull 1).tail.pull 2).tail.pull 3).tail).pull 3).pull 4))
 have h9 : Sat w8 (own s (.cells (stoC mk ms) 80 (0, 0)) :: mapK mk 2000 [] [] :: mapS ms 2000 [] [] :: own V (.cells #[.int .i64 num, .int .i64 0, .int .i64 0, .int .i64 0, .int .i64 0] 58 (0, 0)) :: rowT fCh (.slice oc m cc) 101 7 ks :: refP t L Ws :: oldH W :: own R (.cells #[.int .i64 0, .int .i64 0, .int .i64 0, .int .i64 0, .int .i64 0] 58 (0, 0)) :: l) := h9
 clear h8 hm hEk k6 k7 k8
 go_wp2_with fail
 go_loopw [11] (fun iv wr => ∃ (i : Nat) (v : VerD) (AK : List SlotK) (FK : List Int) (AS : List SlotS) (FS : List Int) (GK GS : Nat) (tK : HTK) (tS : HTS), iv = .int .i64 i ∧ i ≤ m ∧ Hid (v.n = num) ∧ Hid (VerR 2000 (ks.take i) v AK FK AS FS GK GS tK tS) ∧ Hid ((2000 - 9 * i : Int) ≤ roomA 2000 AK FK ∧ (2000 - 9 * i : Int) ≤ roomA 2000 AS FS ∧ GK ≤ 9 * i ∧ GS ≤ 9 * i) ∧ Sat wr (own s (.cells (stoC mk ms) 80 (0, 0)) :: mapK mk 2000 AK FK :: mapS ms 2000 AS FS :: own V (.cells #[.int .i64 v.n, .int .i64 v.ks, .int .i64 v.kg, .int .i64 v.ss, .int .i64 v.sg] 58 (0, 0)) :: rowT fCh (.slice oc m cc) 101 7 ks :: refP t L Ws :: oldH W :: own R (.cells #[.int .i64 0, .int .i64 0, .int .i64 0, .int .i64 0, .int .i64 0] 58 (0, 0)) :: l) ∧ Kp w wr) (fun iv _ => m - (intOf iv).toNat)
 case atStart => exact ⟨0, ⟨num, 0, 0, 0, 0⟩, [], [], [], [], 0, 0, .leaf, .leaf, rfl, by omega, Lib.hid rfl, Lib.hid (ver_nil 2000 num (by decide)), Lib.hid ⟨by decide, by decide, by decide, by decide⟩, h9, k9⟩
 case round =>
   clear h9 k9
   obtain ⟨i, v, AK, FK, AS, FS, GK, GS, tK, tS, rfl, him, HVN, HV, HRM, h2, k2⟩ := hrel
   by_cases hlt : i < m
   case neg =>
     obtain rfl : m = i := by omega
     have hV := HV.out
     have hR := HRM.out
     rw [HM.out, List.take_length] at hV
     have HV2 := Lib.hid hV
     have HR2 := Lib.hid (show (1000 : Int) ≤ roomA 2000 AK FK ∧ (1000 : Int) ≤ roomA 2000 AS FS ∧ GK ≤ 1000 ∧ GS ≤ 1000 by omega)
     clear hV hR HRM HV
     obtain ⟨vl, vw, vs, hvs, h3⟩ := refP_E (h2.pull 5)
     have h4 : Sat wr (own R (.cells #[.int .i64 0, .int .i64 0, .int .i64 0, .int .i64 0, .int .i64 0] 58 (0, 0)) :: own V (.cells #[.int .i64 v.n, .int .i64 v.ks, .int .i64 v.kg, .int .i64 v.ss, .int .i64 v.sg] 58 (0, 0)) :: own t (.cells #[vl, vw] 150 (0, 0)) :: rowT fV vw 26 1 vs :: poolP fK ((vl, L) :: vs.zip Ws) :: own s (.cells (stoC mk ms) 80 (0, 0)) :: mapK mk 2000 AK FK :: mapS ms 2000 AS FS :: rowT fCh (.slice oc m cc) 101 7 ks :: oldH W :: l) := (h3.pull 6).pull 9
     clear h2 h3
     have SE0 := vgE h4.drew
     have SE := fun (x0 x1 x2 x3 x4 : Value) => vgE (((((h4.set 0 x0).set 1 x1).set 2 x2).set 3 x3).set 4 x4).drew
     have SE1 := vgE h4
     obtain ⟨a0, a1, a2, a3, a4, a5⟩ := SE1
     have r0 := (h4).cell 0
     have r1 := (h4).cell 1
     have r2 := (h4).cell 2
     have r3 := (h4).cell 3
     have r4 := (h4).cell 4
     have rf0 := (h4).free 0
     have rf1 := (h4).free 1
     have rf2 := (h4).free 2
     have rf3 := (h4).free 3
     have rf4 := (h4).free 4
     simp at r0 r1 r2 r3 r4
     have hrl := h4.lt
     have hvl := (h4.pull 1).lt
     have hne := h4.ne
     have hne' := hne.symm
     have hne2 := (h4.pull 2).swap.ne
     have g5 := (((((h4.set 0 (.int .i64 v.n)).set 1 (.int .i64 v.ks)).set 2 (.int .i64 v.kg)).set 3 (.int .i64 v.ss)).set 4 (.int .i64 v.sg)).drew
     have q5 := (((((k2.setCell ⟨R, 0, none⟩ (.int .i64 v.n)).setCell ⟨R, 1, none⟩ (.int .i64 v.ks)).setCell ⟨R, 2, none⟩ (.int .i64 v.kg)).setCell ⟨R, 3, none⟩ (.int .i64 v.ss)).setCell ⟨R, 4, none⟩ (.int .i64 v.sg)).drew
     clear h4
     go_upto_region 14 with (fail)
     go_region_held3 (fun w' => w'.cell? ⟨V, 0, none⟩ = some (.int .i64 v.n) ∧ w'.cell? ⟨V, 1, none⟩ = some (.int .i64 v.ks) ∧ w'.cell? ⟨V, 2, none⟩ = some (.int .i64 v.kg) ∧ w'.cell? ⟨V, 3, none⟩ = some (.int .i64 v.ss) ∧ w'.cell? ⟨V, 4, none⟩ = some (.int .i64 v.sg) ∧ w'.cell? ⟨t, 0, none⟩ = some vl) (first | with_reducible exact SE0 | with_reducible exact SE _ _ _ _ _ | fail) ((fail))
     all_goals
       clear SE0 SE r0 rf0 r1 rf1 r2 rf2 r3 rf3 r4 rf4 a0 a1 a2 a3 a4 a5
       generalize World.drew _ = w9 at g5 q5 ⊢
       have r0 := (g5).cell 0
       have r1 := (g5).cell 1
       have r2 := (g5).cell 2
       have r3 := (g5).cell 3
       have r4 := (g5).cell 4
       simp at r0 r1 r2 r3 r4
       have G := Lib.hid g5
       clear g5
       go_wp2_with fail
       refine bodyPost_ret (v := .tuple #[.pointer (some ⟨s, 0, none⟩), .agg #[.int .i64 v.n, .int .i64 v.ks, .int .i64 v.kg, .int .i64 v.ss, .int .i64 v.sg], vl]) (by simp [results, Tryz.results32, go_sem, r0, r1, r2, r3, r4]) rfl ?_
       exact ⟨s, mk, ms, L, v, vl, AK, FK, AS, FS, GK, GS, tK, tS, ks, rfl, HE.out, HEK.out, HVN.out, HV2.out, HR2.out.1, HR2.out.2.1, HR2.out.2.2.1, HR2.out.2.2.2, vgP ((((G.out.tail.tail.tail.tail).push 3).pull 4).tail), q5⟩
   obtain ⟨k, hk⟩ : ∃ k, ks[i]? = some k := ⟨_, List.getElem?_eq_getElem (by rw [← HM.out]; exact hlt)⟩
   have hn2 : ∀ y ∈ ks.take i, y.node ≠ k.node := by
     have e1 := take_snoc' hk
     have hnd : ((ks.take (i + 1)).map KidD.node).Nodup := List.Nodup.sublist ((List.take_sublist _ _).map _) HEK.out.nodup
     rw [e1, List.map_append, List.nodup_append] at hnd
     exact fun y hy => hnd.2.2 _ (List.mem_map.2 ⟨y, hy, rfl⟩) _ (by simp)
   have e1 := take_snoc' hk
   have hV := HV.out
   have hR := HRM.out
   have hz : (ks.take i).length ≤ 8 := by rw [List.length_take]; omega
   have zk := hV.zk
   have zs := hV.zs
   have hse := fun (W' : World) (l' : List HProp) (hW' : Sat W' (own s (.cells (stoC mk ms) 80 (0, 0)) :: mapK mk 2000 AK FK :: mapS ms 2000 AS FS :: l')) => store_set_new (n := k.node) (nu := k.up) (nm := k.name) hW' (hV.none hn2) hV.ks hV.kg hV.ss hV.sg hV.k.rep hV.s.rep hV.k.hi hV.s.hi hV.k.wf hV.s.wf (by omega) (by omega) (by decide) (by decide) hV.lk hV.ls (by omega) (by omega) (by omega) (by omega)
   have HN2 := Lib.hid hn2
   have E1 := Lib.hid e1
   have HK := Lib.hid hk
   rcases (h2.pull 4).tForm with ⟨_, hp⟩ | ⟨g, off, gcap, hfv⟩
   · rw [hp] at hk; simp at hk
   simp only [Value.slice.injEq] at hfv
   obtain ⟨rfl, -, rfl⟩ := hfv
   have S0 := vgS hk h2
   have HS0 := Lib.hid S0
   obtain ⟨⟨a0, a1, a2, a3, a4⟩, b0, b1, b2, b3, b4, b5, b6⟩ := S0
   have i0' : (0 : Int) ≤ (i : Int) := by omega
   have i1' : (i : Int) < (m : Int) := by omega
   have RK := Lib.hid (show (tK.size + 1 : Int) ≤ roomA 2000 AK FK ∧ (tS.size + 1 : Int) ≤ roomA 2000 AS FS ∧ tK.size ≤ 8 ∧ tS.size ≤ 8 by omega)
   unfold aggV at hse
   clear hk hn2 e1 hV hR zk zs hz
   go_upto_region 10 with (fail)
   have HSE := Lib.hid hse
   have zA := hse _ _ h2.drew
   have zB := hse _ _ ((h2.alloc (.cells #[.int .i64 0, .int .i64 0, .int .i64 0, .int .i64 0, .int .i64 0] 58)).push 8).drew
   have hC := ((((h2.alloc (.cells #[.int .i64 0, .int .i64 0, .int .i64 0, .int .i64 0, .int .i64 0] 58)).push 8).alloc (.cells #[.slice none 0 0, .slice none 0 0, .slice none 0 0, .slice none 0 0] 94)).push 9).drew
   simp only [World.size_alloc] at hC
   have zC := hse _ _ hC
   clear hC
   have hE := ((((h2.alloc (.cells #[.slice none 0 0, .slice none 0 0, .slice none 0 0, .slice none 0 0] 94)).push 8).alloc (.cells #[.int .i64 0, .int .i64 0, .int .i64 0, .int .i64 0, .int .i64 0] 58)).push 9).drew
   simp only [World.size_alloc] at hE
   have zE := hse _ _ hE
   clear hE
   have zD := hse _ _ ((h2.alloc (.cells #[.slice none 0 0, .slice none 0 0, .slice none 0 0, .slice none 0 0] 94)).push 8).drew
   clear hse
   go_cut [12, 13, 14] from 30 to 50 (fun bv cv iv wx => ∃ (B C : Nat) (AK1 : List SlotK) (FK1 : List Int) (TK : HTK) (nK : List Hd) (AS1 : List SlotS) (FS1 : List Int) (TS : HTS) (nS : List Hd) (AK2 : List SlotK) (FK2 : List Int) (AS2 : List SlotS) (FS2 : List Int), bv = .pointer (some ⟨B, 0, none⟩) ∧ cv = .pointer (some ⟨C, 0, none⟩) ∧ iv = .bool true ∧
     Laid 2000 AK FK GK (putT kord k true tK).1 AK1 FK1 TK nK ∧ Laid 2000 AS FS GS (putT cmpI k.node ⟨true, k.up, k.name⟩ tS).1 AS1 FS1 TS nS ∧
     FreesA 2000 AK1 FK1 (GK + freshT (putT kord k true tK).1) (bothH ([] ++ nK) ([] ++ (putT kord k true tK).2)) AK2 FK2 ∧ FreesA 2000 AS1 FS1 (GS + freshT (putT cmpI k.node ⟨true, k.up, k.name⟩ tS).1) (bothH ([] ++ nS) ([] ++ (putT cmpI k.node ⟨true, k.up, k.name⟩ tS).2)) AS2 FS2 ∧
     Sat wx (own B (.cells #[.int .i64 v.n, .int .i64 TK.root.s, .int .i64 TK.root.g, .int .i64 TS.root.s, .int .i64 TS.root.g] 58 (0, 0)) :: own s (.cells (stoC mk ms) 80 (0, 0)) :: mapK mk 2000 AK2 FK2 :: mapS ms 2000 AS2 FS2 :: own V (.cells #[.int .i64 v.n, .int .i64 v.ks, .int .i64 v.kg, .int .i64 v.ss, .int .i64 v.sg] 58 (0, 0)) :: rowT fCh (.slice (some ⟨g, off, none⟩) m cc) 101 7 ks :: refP t L Ws :: oldH W :: own R (.cells #[.int .i64 0, .int .i64 0, .int .i64 0, .int .i64 0, .int .i64 0] 58 (0, 0)) :: l) ∧ Kp wr wx)
   case first =>
     have SH0 := vgS HK.out h2.drew
     have SH1 := fun (o : Array Value) (ot : TypeId) => vgS HK.out ((h2.alloc (.cells o ot)).push 8).drew
     have SH2 := fun (o : Array Value) (ot : TypeId) (p : Array Value) (pt : TypeId) => vgS HK.out ((((h2.alloc (.cells o ot)).push 8).alloc (.cells p pt)).push 9).drew
     go_region_held3 (fun w' => (w'.cell? ⟨V, 0, none⟩ = some (.int .i64 v.n) ∧ w'.cell? ⟨V, 1, none⟩ = some (.int .i64 v.ks) ∧ w'.cell? ⟨V, 2, none⟩ = some (.int .i64 v.kg) ∧ w'.cell? ⟨V, 3, none⟩ = some (.int .i64 v.ss) ∧ w'.cell? ⟨V, 4, none⟩ = some (.int .i64 v.sg)) ∧
     (w'.cell? ⟨g, off + i * 7, none⟩ = some (.int .i64 k.node) ∧ w'.cell? ⟨g, off + i * 7 + 1, none⟩ = some (.bool false) ∧ w'.cell? ⟨g, off + i * 7 + 2, none⟩ = some (.int .i64 0) ∧ w'.cell? ⟨g, off + i * 7 + 3, none⟩ = some (.string ⟨#[]⟩) ∧ w'.cell? ⟨g, off + i * 7 + 4, none⟩ = some (.bool true) ∧ w'.cell? ⟨g, off + i * 7 + 5, none⟩ = some (.int .i64 k.up) ∧ w'.cell? ⟨g, off + i * 7 + 6, none⟩ = some (.string k.name))) (first | with_reducible exact HS0.out | with_reducible exact SH0 | with_reducible exact SH1 _ _ | with_reducible exact SH2 _ _ _ _ | with_reducible exact SA | with_reducible exact SA1 _ _ | with_reducible exact SA2 _ _ _ _ | with_reducible exact SB1 _ _ _ _ _ | with_reducible exact SB2 _ _ _ _ _ _ _ | with_reducible exact SB3 _ _ _ _ _ _ _ | with_reducible exact SB4 _ _ _ _ _ _ _ _ _ | with_reducible exact SC1 _ _ _ _ | with_reducible exact SC2 _ _ _ _ _ _ | with_reducible exact SC3 _ _ _ _ _ _ | fail) ((first
       | (go_at_call 43; (with_reducible refine zA.mono ?_); rintro e w9 hQ; unfold SetQ at hQ; obtain ⟨D, q1, q2, q3, q4, AK1, FK1, TK, nK, AS1, FS1, TS, nS, AK2, FK2, AS2, FS2, rfl, rfl, LK, LS, FK', FS', h3, k3⟩ := hQ; obtain ⟨y1, z1, rfl⟩ := h3.tLen; obtain ⟨y2, z2, rfl⟩ := (h3.pull 1).tLen; obtain ⟨y3, z3, rfl⟩ := (h3.pull 2).tLen; obtain ⟨y4, z4, rfl⟩ := (h3.pull 3).tLen; simp only [aggV]; have SA := vgS HK.out h3.tail.tail.tail.tail; have SA1 := fun (o : Array Value) (ot : TypeId) => vgS HK.out ((h3.alloc (.cells o ot)).tail.tail.tail.tail.tail); have SA2 := fun (o : Array Value) (ot : TypeId) (p : Array Value) (pt : TypeId) => vgS HK.out (((h3.alloc (.cells o ot)).alloc (.cells p pt)).tail.tail.tail.tail.tail.tail))
       | (go_at_call 43; (with_reducible refine zB.mono ?_); rintro e w9 hQ; unfold SetQ at hQ; obtain ⟨D, q1, q2, q3, q4, AK1, FK1, TK, nK, AS1, FS1, TS, nS, AK2, FK2, AS2, FS2, rfl, rfl, LK, LS, FK', FS', h3, k3⟩ := hQ; obtain ⟨y1, z1, rfl⟩ := h3.tLen; obtain ⟨y2, z2, rfl⟩ := (h3.pull 1).tLen; obtain ⟨y3, z3, rfl⟩ := (h3.pull 2).tLen; obtain ⟨y4, z4, rfl⟩ := (h3.pull 3).tLen; simp only [aggV]; have SA := vgS HK.out h3.tail.tail.tail.tail; have SA1 := fun (o : Array Value) (ot : TypeId) => vgS HK.out ((h3.alloc (.cells o ot)).tail.tail.tail.tail.tail); have SA2 := fun (o : Array Value) (ot : TypeId) (p : Array Value) (pt : TypeId) => vgS HK.out (((h3.alloc (.cells o ot)).alloc (.cells p pt)).tail.tail.tail.tail.tail.tail); have SB1 := fun (x0 x1 x2 x3 x4 : Value) => vgS HK.out (((((((h3.pull 12).set 0 x0).set 1 x1).set 2 x2).set 3 x3).set 4 x4).tail.tail.tail.tail.tail); have SB2 := fun (x0 x1 x2 x3 x4 : Value) (o : Array Value) (ot : TypeId) => vgS HK.out ((((((((h3.pull 12).set 0 x0).set 1 x1).set 2 x2).set 3 x3).set 4 x4).alloc (.cells o ot)).tail.tail.tail.tail.tail.tail); have SB3 := fun (o : Array Value) (ot : TypeId) (x0 x1 x2 x3 x4 : Value) => vgS HK.out ((((((((h3.alloc (.cells o ot)).pull 13).set 0 x0).set 1 x1).set 2 x2).set 3 x3).set 4 x4).tail.tail.tail.tail.tail.tail); have nv0 := (h3.pull 12).cell 0; have nvf0 := (h3.pull 12).free 0; have nv1 := (h3.pull 12).cell 1; have nvf1 := (h3.pull 12).free 1; have nv2 := (h3.pull 12).cell 2; have nvf2 := (h3.pull 12).free 2; have nv3 := (h3.pull 12).cell 3; have nvf3 := (h3.pull 12).free 3; have nv4 := (h3.pull 12).cell 4; have nvf4 := (h3.pull 12).free 4; simp at nv0 nv1 nv2 nv3 nv4; have nvl := (h3.pull 12).lt)
       | (go_at_call 43; (with_reducible refine zC.mono ?_); rintro e w9 hQ; unfold SetQ at hQ; obtain ⟨D, q1, q2, q3, q4, AK1, FK1, TK, nK, AS1, FS1, TS, nS, AK2, FK2, AS2, FS2, rfl, rfl, LK, LS, FK', FS', h3, k3⟩ := hQ; obtain ⟨y1, z1, rfl⟩ := h3.tLen; obtain ⟨y2, z2, rfl⟩ := (h3.pull 1).tLen; obtain ⟨y3, z3, rfl⟩ := (h3.pull 2).tLen; obtain ⟨y4, z4, rfl⟩ := (h3.pull 3).tLen; simp only [aggV]; have SA := vgS HK.out h3.tail.tail.tail.tail; have SA1 := fun (o : Array Value) (ot : TypeId) => vgS HK.out ((h3.alloc (.cells o ot)).tail.tail.tail.tail.tail); have SA2 := fun (o : Array Value) (ot : TypeId) (p : Array Value) (pt : TypeId) => vgS HK.out (((h3.alloc (.cells o ot)).alloc (.cells p pt)).tail.tail.tail.tail.tail.tail); have SB1 := fun (x0 x1 x2 x3 x4 : Value) => vgS HK.out (((((((h3.pull 12).set 0 x0).set 1 x1).set 2 x2).set 3 x3).set 4 x4).tail.tail.tail.tail.tail); have SB4 := fun (x0 x1 x2 x3 x4 : Value) (y0 y1 y2 y3 : Value) => vgS HK.out ((((((((((((h3.pull 12).set 0 x0).set 1 x1).set 2 x2).set 3 x3).set 4 x4).pull 13).set 0 y0).set 1 y1).set 2 y2).set 3 y3).tail.tail.tail.tail.tail.tail); have nv0 := (h3.pull 12).cell 0; have nvf0 := (h3.pull 12).free 0; have nv1 := (h3.pull 12).cell 1; have nvf1 := (h3.pull 12).free 1; have nv2 := (h3.pull 12).cell 2; have nvf2 := (h3.pull 12).free 2; have nv3 := (h3.pull 12).cell 3; have nvf3 := (h3.pull 12).free 3; have nv4 := (h3.pull 12).cell 4; have nvf4 := (h3.pull 12).free 4; simp at nv0 nv1 nv2 nv3 nv4; have nvl := (h3.pull 12).lt; have nt0 := (h3.pull 13).cell 0; have ntf0 := (h3.pull 13).free 0; have nt1 := (h3.pull 13).cell 1; have ntf1 := (h3.pull 13).free 1; have nt2 := (h3.pull 13).cell 2; have ntf2 := (h3.pull 13).free 2; have nt3 := (h3.pull 13).cell 3; have ntf3 := (h3.pull 13).free 3; simp at nt0 nt1 nt2 nt3; have ntl := (h3.pull 13).lt; have nne := ((h3.pull 12).pull 13).ne; have nne' := nne.symm)
       | (go_at_call 43; (with_reducible refine zD.mono ?_); rintro e w9 hQ; unfold SetQ at hQ; obtain ⟨D, q1, q2, q3, q4, AK1, FK1, TK, nK, AS1, FS1, TS, nS, AK2, FK2, AS2, FS2, rfl, rfl, LK, LS, FK', FS', h3, k3⟩ := hQ; obtain ⟨y1, z1, rfl⟩ := h3.tLen; obtain ⟨y2, z2, rfl⟩ := (h3.pull 1).tLen; obtain ⟨y3, z3, rfl⟩ := (h3.pull 2).tLen; obtain ⟨y4, z4, rfl⟩ := (h3.pull 3).tLen; simp only [aggV]; have SA := vgS HK.out h3.tail.tail.tail.tail; have SA1 := fun (o : Array Value) (ot : TypeId) => vgS HK.out ((h3.alloc (.cells o ot)).tail.tail.tail.tail.tail); have SA2 := fun (o : Array Value) (ot : TypeId) (p : Array Value) (pt : TypeId) => vgS HK.out (((h3.alloc (.cells o ot)).alloc (.cells p pt)).tail.tail.tail.tail.tail.tail); have SC1 := fun (y0 y1 y2 y3 : Value) => vgS HK.out ((((((h3.pull 12).set 0 y0).set 1 y1).set 2 y2).set 3 y3).tail.tail.tail.tail.tail); have SC2 := fun (y0 y1 y2 y3 : Value) (o : Array Value) (ot : TypeId) => vgS HK.out (((((((h3.pull 12).set 0 y0).set 1 y1).set 2 y2).set 3 y3).alloc (.cells o ot)).tail.tail.tail.tail.tail.tail); have SC3 := fun (o : Array Value) (ot : TypeId) (y0 y1 y2 y3 : Value) => vgS HK.out (((((((h3.alloc (.cells o ot)).pull 13).set 0 y0).set 1 y1).set 2 y2).set 3 y3).tail.tail.tail.tail.tail.tail); have nt0 := (h3.pull 12).cell 0; have ntf0 := (h3.pull 12).free 0; have nt1 := (h3.pull 12).cell 1; have ntf1 := (h3.pull 12).free 1; have nt2 := (h3.pull 12).cell 2; have ntf2 := (h3.pull 12).free 2; have nt3 := (h3.pull 12).cell 3; have ntf3 := (h3.pull 12).free 3; simp at nt0 nt1 nt2 nt3; have ntl := (h3.pull 12).lt)
       | (go_at_call 43; (with_reducible refine zE.mono ?_); rintro e w9 hQ; unfold SetQ at hQ; obtain ⟨D, q1, q2, q3, q4, AK1, FK1, TK, nK, AS1, FS1, TS, nS, AK2, FK2, AS2, FS2, rfl, rfl, LK, LS, FK', FS', h3, k3⟩ := hQ; obtain ⟨y1, z1, rfl⟩ := h3.tLen; obtain ⟨y2, z2, rfl⟩ := (h3.pull 1).tLen; obtain ⟨y3, z3, rfl⟩ := (h3.pull 2).tLen; obtain ⟨y4, z4, rfl⟩ := (h3.pull 3).tLen; simp only [aggV]; have SA := vgS HK.out h3.tail.tail.tail.tail; have SA1 := fun (o : Array Value) (ot : TypeId) => vgS HK.out ((h3.alloc (.cells o ot)).tail.tail.tail.tail.tail); have SA2 := fun (o : Array Value) (ot : TypeId) (p : Array Value) (pt : TypeId) => vgS HK.out (((h3.alloc (.cells o ot)).alloc (.cells p pt)).tail.tail.tail.tail.tail.tail); have SB1 := fun (x0 x1 x2 x3 x4 : Value) => vgS HK.out (((((((h3.pull 13).set 0 x0).set 1 x1).set 2 x2).set 3 x3).set 4 x4).tail.tail.tail.tail.tail); have SB4 := fun (x0 x1 x2 x3 x4 : Value) (y0 y1 y2 y3 : Value) => vgS HK.out ((((((((((((h3.pull 13).set 0 x0).set 1 x1).set 2 x2).set 3 x3).set 4 x4).pull 13).set 0 y0).set 1 y1).set 2 y2).set 3 y3).tail.tail.tail.tail.tail.tail); have SC1 := fun (y0 y1 y2 y3 : Value) => vgS HK.out ((((((h3.pull 12).set 0 y0).set 1 y1).set 2 y2).set 3 y3).tail.tail.tail.tail.tail); have nt0 := (h3.pull 12).cell 0; have ntf0 := (h3.pull 12).free 0; have nt1 := (h3.pull 12).cell 1; have ntf1 := (h3.pull 12).free 1; have nt2 := (h3.pull 12).cell 2; have ntf2 := (h3.pull 12).free 2; have nt3 := (h3.pull 12).cell 3; have ntf3 := (h3.pull 12).free 3; simp at nt0 nt1 nt2 nt3; have ntl := (h3.pull 12).lt; have nv0 := (h3.pull 13).cell 0; have nvf0 := (h3.pull 13).free 0; have nv1 := (h3.pull 13).cell 1; have nvf1 := (h3.pull 13).free 1; have nv2 := (h3.pull 13).cell 2; have nvf2 := (h3.pull 13).free 2; have nv3 := (h3.pull 13).cell 3; have nvf3 := (h3.pull 13).free 3; have nv4 := (h3.pull 13).cell 4; have nvf4 := (h3.pull 13).free 4; simp at nv0 nv1 nv2 nv3 nv4; have nvl := (h3.pull 13).lt; have nne := ((h3.pull 12).pull 13).ne; have nne' := nne.symm)))
     all_goals
       go_wp2_with fail
       go_meet
       case rel =>
         have LK2 : Laid 2000 AK FK GK (putT kord k true tK).1 AK1 FK1 TK nK := LK
         have FK2' : FreesA 2000 AK1 FK1 (GK + freshT (putT kord k true tK).1) (bothH ([] ++ nK) ([] ++ (putT kord k true tK).2)) AK2 FK2 := FK'
         clear LK FK'
         first
         | (have hq := nne; have hq2 := SC1; exact ⟨_, _, AK1, FK1, TK, nK, AS1, FS1, TS, nS, AK2, FK2, AS2, FS2, rfl, rfl, rfl, LK2, LS, FK2', FS', (((((((((((h3.pull 13).set 0 (.int .i64 v.n)).set 1 (.int .i64 TK.root.s)).set 2 (.int .i64 TK.root.g)).set 3 (.int .i64 TS.root.s)).set 4 (.int .i64 TS.root.g)).pull 13).set 0 _).set 1 _).set 2 _).set 3 _).tail.swap.tail.swap.tail.swap.tail.swap.tail, ((((((((((((((Kp.refl wr).alloc _).alloc _).drew).trans k3).setCell _ _).setCell _ _).setCell _ _).setCell _ _).setCell _ _).setCell _ _).setCell _ _).setCell _ _).setCell _ _)⟩)
         | (have hq := nne; exact ⟨_, _, AK1, FK1, TK, nK, AS1, FS1, TS, nS, AK2, FK2, AS2, FS2, rfl, rfl, rfl, LK2, LS, FK2', FS', (((((((((((h3.pull 12).set 0 (.int .i64 v.n)).set 1 (.int .i64 TK.root.s)).set 2 (.int .i64 TK.root.g)).set 3 (.int .i64 TS.root.s)).set 4 (.int .i64 TS.root.g)).pull 13).set 0 _).set 1 _).set 2 _).set 3 _).tail.swap.tail.swap.tail.swap.tail.swap.tail, ((((((((((((((Kp.refl wr).alloc _).alloc _).drew).trans k3).setCell _ _).setCell _ _).setCell _ _).setCell _ _).setCell _ _).setCell _ _).setCell _ _).setCell _ _).setCell _ _)⟩)
         | (have hq := SB3; exact ⟨_, _, AK1, FK1, TK, nK, AS1, FS1, TS, nS, AK2, FK2, AS2, FS2, rfl, rfl, rfl, LK2, LS, FK2', FS', (((((((h3.pull 12).set 0 (.int .i64 v.n)).set 1 (.int .i64 TK.root.s)).set 2 (.int .i64 TK.root.g)).set 3 (.int .i64 TS.root.s)).set 4 (.int .i64 TS.root.g)).alloc _).tail.swap.tail.swap.tail.swap.tail.swap.tail, ((((((((((Kp.refl wr).alloc _).drew).trans k3).setCell _ _).setCell _ _).setCell _ _).setCell _ _).setCell _ _).alloc _)⟩)
         | (have hq := SC3; exact ⟨_, _, AK1, FK1, TK, nK, AS1, FS1, TS, nS, AK2, FK2, AS2, FS2, rfl, rfl, rfl, LK2, LS, FK2', FS', vgD (((((h3.pull 12).set 0 _).set 1 _).set 2 _).set 3 _).tail.tail.tail.tail.tail (by simp only [World.size_setCell]), (((((((((Kp.refl wr).alloc _).drew).trans k3).setCell _ _).setCell _ _).setCell _ _).setCell _ _).alloc _)⟩)
         | exact ⟨_, _, AK1, FK1, TK, nK, AS1, FS1, TS, nS, AK2, FK2, AS2, FS2, rfl, rfl, rfl, LK2, LS, FK2', FS', vgA1 h3.tail.tail.tail.tail, ((((Kp.refl wr).drew.trans k3).alloc _).alloc _)⟩
         | exact ⟨_, _, AK1, FK1, TK, nK, AS1, FS1, TS, nS, AK2, FK2, AS2, FS2, rfl, rfl, rfl, LK2, LS, FK2', FS', vgA2 h3.tail.tail.tail.tail, ((((Kp.refl wr).drew.trans k3).alloc _).alloc _)⟩
   case rest =>
     clear zA zB zC zD zE a0 a1 a2 a3 a4 b0 b1 b2 b3 b4 b5 b6
     obtain ⟨B, C, AK1, FK1, TK, nK, AS1, FS1, TS, nS, AK2, FK2, AS2, FS2, rfl, rfl, rfl, LK, LS, FK', FS', h3, k3⟩ := hcut
     obtain ⟨gK, gS, g1, g2, g3, -, -, g4, g5⟩ := HV.out.put HN2.out RK.out.1 RK.out.2.1 LK LS FK' FS'
     rw [← E1.out] at g3
     have HV2 := Lib.hid g3
     have HR2 := Lib.hid (show (2000 - 9 * ((i + 1 : Nat) : Int) : Int) ≤ roomA 2000 AK2 FK2 ∧ (2000 - 9 * ((i + 1 : Nat) : Int) : Int) ≤ roomA 2000 AS2 FS2 ∧ GK + gK ≤ 9 * (i + 1) ∧ GS + gS ≤ 9 * (i + 1) by
       have := HRM.out
       have := RK.out
       push_cast
       omega)
     clear g1 g2 g3 g4 g5 LK LS FK' FS' h2
     have b0 := (h3).cell 0
     have b1 := (h3).cell 1
     have b2 := (h3).cell 2
     have b3 := (h3).cell 3
     have b4 := (h3).cell 4
     simp at b0 b1 b2 b3 b4
     have v0 := (h3.pull 4).cell 0
     have v1 := (h3.pull 4).cell 1
     have v2 := (h3.pull 4).cell 2
     have v3 := (h3.pull 4).cell 3
     have v4 := (h3.pull 4).cell 4
     have vf0 := (h3.pull 4).free 0
     have vf1 := (h3.pull 4).free 1
     have vf2 := (h3.pull 4).free 2
     have vf3 := (h3.pull 4).free 3
     have vf4 := (h3.pull 4).free 4
     simp at v0 v1 v2 v3 v4
     have hbl := h3.lt
     have hvl := (h3.pull 4).lt
     have hne := (h3.pull 4).ne
     have h4 := ((((((h3.pull 4).set 0 (.int .i64 v.n)).set 1 (.int .i64 TK.root.s)).set 2 (.int .i64 TK.root.g)).set 3 (.int .i64 TS.root.s)).set 4 (.int .i64 TS.root.g))
     have k4 := ((((((k2.trans k3).setCell ⟨V, 0, none⟩ (.int .i64 v.n)).setCell ⟨V, 1, none⟩ (.int .i64 TK.root.s)).setCell ⟨V, 2, none⟩ (.int .i64 TK.root.g)).setCell ⟨V, 3, none⟩ (.int .i64 TS.root.s)).setCell ⟨V, 4, none⟩ (.int .i64 TS.root.g))
     clear h3 k2 k3
     go_wp2_with fail
     go_roundw
     case rel => exact ⟨i + 1, { v with ks := TK.root.s, kg := TK.root.g, ss := TS.root.s, sg := TS.root.g }, AK2, FK2, AS2, FS2, GK + gK, GS + gS, TK, TS, by go_num, by omega, HVN, HV2, HR2, ((h4.swap.tail).push 3), k4⟩
     case measure => simp [intOf]; omega
/-- What a client's grown leaves. -/
def GrownC (W : World) (os : List OpD) (num queue : Int) (l : List HProp) (w : World) (e : Ending) (w' : World) : Prop :=
 ∃ (d s mk ms : Nat) (L : List KidD) (v : VerD) (vl : Value) (AK : List SlotK) (FK : List Int) (AS : List SlotS) (FS : List Int) (GK GS : Nat) (tK : HTK) (tS : HTS) (ks : List KidD),
   e = .returned (.tuple #[.pointer (some ⟨d, 0, none⟩), .pointer (some ⟨s, 0, none⟩), vl]) ∧ EnumK (growT os).1 L ∧ EnumK (growT os).1 ks ∧ v.n = num ∧ VerR 2000 ks v AK FK AS FS GK GS tK tS ∧
   1000 ≤ roomA 2000 AK FK ∧ 1000 ≤ roomA 2000 AS FS ∧ GK ≤ 1000 ∧ GS ≤ 1000 ∧
   Sat w' (deskP d { tick (newD 3 queue) with n := v.n, ks := v.ks, kg := v.kg, ss := v.ss, sg := v.sg } :: own s (.cells (stoC mk ms) 80 (0, 0)) :: mapK mk 2000 AK FK :: mapS ms 2000 AS FS :: poolP fK [(vl, L)] :: oldH W :: l) ∧ Kp w w'
theorem vgC {w : World} {l : List HProp} {D S K M V C O T R : HProp} {ps : List (Value × List KidD)} {vl : Value} {L : List KidD} (h : Sat w (D :: T :: R :: poolP fK ((vl, L) :: ps) :: S :: K :: M :: V :: C :: O :: l)) : Sat w (D :: S :: K :: M :: poolP fK [(vl, L)] :: O :: l) := by
 have h1 := (h.pull 1).tail
 have h2 := (h1.pull 1).tail
 have h3 := (h2.pull 5).tail
 have h4 := (h3.pull 5).tail
 exact (((h4.pull 1).poolSub (ps' := [(vl, L)]) (fun p hp => by obtain rfl := List.mem_singleton.1 hp; simp)).push 4)
theorem ver_grownC {W w : World} {l : List HProp} {ao : Option Addr} {n cap : Nat} {ts : List TinyD} {num queue : Int} (hq0 : 0 ≤ queue) (hq1 : queue ≤ 65536) (hs : Sat w (oldH W :: l)) (ha : ArgRow W fT ao n cap ts) (hok : ∀ t ∈ ts, TinyOk t) (hn : n ≤ 30) :
   Calls Tryz.prog 45 #[.slice ao n cap, .int .i64 num, .int .i64 queue] w (GrownC W (ts.map ofT) num queue l w) := by
 have HA := Lib.hid ha
 have HO := Lib.hid hok
 have hlen : (ts.map ofT).length = n := by rw [List.length_map]; exact ha.len
 have HLEN := Lib.hid hlen
 have HG := Lib.hid (grow_grown (ts.map ofT))
 have HZ := Lib.hid (show ∀ o ∈ ts.map ofT, o.name.size ≤ 1000 from fun o ho => by
   obtain ⟨t, _, rfl⟩ := List.mem_map.1 ho
   exact letter_sizeV _)
 have HP := Lib.hid (show ∀ o ∈ ts.map ofT, 0 ≤ o.node from fun o ho => by
   obtain ⟨t, ht, rfl⟩ := List.mem_map.1 ho
   show 0 ≤ 256 + t.node % 8
   omega)
 have H8 := Lib.hid (show ∀ o ∈ ts.map ofT, 256 ≤ o.node ∧ o.node < 264 from fun o ho => by
   obtain ⟨t, ht, rfl⟩ := List.mem_map.1 ho
   show 256 ≤ 256 + t.node % 8 ∧ 256 + t.node % 8 < 264
   omega)
 generalize hos : ts.map ofT = os at *
 have HOS := Lib.hid hos
 clear ha hok hlen hos
 go_enter Tryz.func45, Tryz.ntmps45
 go_wp2_with fail
 refine (desk_new 3 queue w _ hs (by omega) hq0 hq1).mono ?_
 rintro e w1 ⟨d, rfl, hR, kR⟩
 clear hs
 have hnw := view_new (most := 2000) hR (by decide) (by decide)
 clear hR
 go_wp2_with fail
 refine hnw.mono ?_
 rintro e w2 ⟨s, rfl, h2, k2⟩
 clear hnw
 have hV := h2.alloc (.cells #[.int .i64 num, .int .i64 0, .int .i64 0, .int .i64 0, .int .i64 0] 58)
 have kV := (kR.trans k2).alloc (.cells #[.int .i64 num, .int .i64 0, .int .i64 0, .int .i64 0, .int .i64 0] 58)
 clear h2 kR k2
 go_upto_region 6 with (fail)
 generalize World.alloc _ _ = w3 at hV kV ⊢
 generalize w2.heap.size = V at hV ⊢
 have hal := tiny_all (hV.pull 3) HA.out HO.out hn
 clear hV
 go_wp2_with fail
 refine hal.mono ?_
 rintro e w4 ⟨v1, rfl, h4, k4⟩
 clear hal
 rw [HOS.out] at h4
 obtain ⟨o1, c1, rfl⟩ := h4.tLen
 rw [HLEN.out] at h4 ⊢
 have hof := ref_of h4 (fun w' h => h.rowArg2 HLEN.out) HZ.out (by omega)
 clear h4
 go_wp2_with fail
 refine hof.mono ?_
 rintro e w5 ⟨t, L, Ws, rfl, hBo, h5, k5⟩
 clear hof
 have HB := Lib.hid hBo
 clear hBo
 have h6 := refP_new h5
 have k6 := (kV.trans (k4.trans k5)).alloc (.cells #[.slice none 0 0, .slice none 0 0] 150)
 clear kV k4 k5
 have hal2 := tiny_all (h6.pull 3) HA.out HO.out hn
 clear h6
 go_wp2_with fail
 refine hal2.mono ?_
 rintro e w7 ⟨v2, rfl, h7, k7⟩
 clear hal2
 rw [HOS.out] at h7
 obtain ⟨o2, c2, rfl⟩ := h7.tLen
 rw [HLEN.out] at h7 ⊢
 generalize w5.heap.size = t0 at h7 ⊢
 have hE := (both_facts HB.out).1
 have hL8 : L.length ≤ 8 := by
   have := nodup_le 8 256 (L.map KidD.node) hE.nodup (fun x hx => by
     obtain ⟨y, hy, rfl⟩ := List.mem_map.1 hx
     obtain ⟨h1, o, ho, h2⟩ := HG.out.dom y.node _ (hE.mem y hy)
     have := H8.out o ho
     omega)
   simpa using this
 have HE := Lib.hid hE
 have hch := ref_changes ((h7.pull 3).pull 3) (fun w' h => h.rowArg2 HLEN.out) HG.out hE (by omega) (by omega) HP.out
 clear h7 hE
 go_wp2_with fail
 refine hch.mono ?_
 rintro e w8 ⟨vc, ks, rfl, hEk, hkl, h8, k8⟩
 clear hch
 obtain ⟨oc, cc, rfl⟩ := h8.tLen
 obtain ⟨m, hm⟩ : ∃ m, m = ks.length := ⟨_, rfl⟩
 rw [← hm] at h8 hkl ⊢
 have HM := Lib.hid hm
 have HEK := Lib.hid hEk
 have hm8 : m ≤ 8 := by omega
 have hm8' : (m : Int) ≤ 8 := by omega
 have k9 := k6.trans (k7.trans k8)
 obtain ⟨mk, ms, h9⟩ := storeP_E (((((((h8.pull 1).tail.pull 2).tail.pull 3).tail).pull 3).pull 4))
 have h9 : Sat w8 (own s (.cells (stoC mk ms) 80 (0, 0)) :: mapK mk 2000 [] [] :: mapS ms 2000 [] [] :: own V (.cells #[.int .i64 num, .int .i64 0, .int .i64 0, .int .i64 0, .int .i64 0] 58 (0, 0)) :: rowT fCh (.slice oc m cc) 101 7 ks :: refP t L Ws :: oldH W :: deskP d (newD 3 queue) :: l) := h9
 clear h8 hm hEk k6 k7 k8
 go_wp2_with fail
 go_loopw [14] (fun iv wr => ∃ (i : Nat) (v : VerD) (AK : List SlotK) (FK : List Int) (AS : List SlotS) (FS : List Int) (GK GS : Nat) (tK : HTK) (tS : HTS), iv = .int .i64 i ∧ i ≤ m ∧ Hid (v.n = num) ∧ Hid (VerR 2000 (ks.take i) v AK FK AS FS GK GS tK tS) ∧ Hid ((2000 - 9 * i : Int) ≤ roomA 2000 AK FK ∧ (2000 - 9 * i : Int) ≤ roomA 2000 AS FS ∧ GK ≤ 9 * i ∧ GS ≤ 9 * i) ∧ Sat wr (own s (.cells (stoC mk ms) 80 (0, 0)) :: mapK mk 2000 AK FK :: mapS ms 2000 AS FS :: own V (.cells #[.int .i64 v.n, .int .i64 v.ks, .int .i64 v.kg, .int .i64 v.ss, .int .i64 v.sg] 58 (0, 0)) :: rowT fCh (.slice oc m cc) 101 7 ks :: refP t L Ws :: oldH W :: deskP d (newD 3 queue) :: l) ∧ Kp w wr) (fun iv _ => m - (intOf iv).toNat)
 case atStart => exact ⟨0, ⟨num, 0, 0, 0, 0⟩, [], [], [], [], 0, 0, .leaf, .leaf, rfl, by omega, Lib.hid rfl, Lib.hid (ver_nil 2000 num (by decide)), Lib.hid ⟨by decide, by decide, by decide, by decide⟩, h9, k9⟩
 case round =>
   clear h9 k9
   obtain ⟨i, v, AK, FK, AS, FS, GK, GS, tK, tS, rfl, him, HVN, HV, HRM, h2, k2⟩ := hrel
   by_cases hlt : i < m
   case neg =>
     obtain rfl : m = i := by omega
     have hV := HV.out
     have hR := HRM.out
     rw [HM.out, List.take_length] at hV
     have HV2 := Lib.hid hV
     have HR2 := Lib.hid (show (1000 : Int) ≤ roomA 2000 AK FK ∧ (1000 : Int) ≤ roomA 2000 AS FS ∧ GK ≤ 1000 ∧ GS ≤ 1000 by omega)
     clear hV hR HRM HV
     obtain ⟨vl, vw, vs, hvs, h3⟩ := refP_E (h2.pull 5)
     clear h2
     have v0 := (h3.pull 6).cell 0
     have v1 := (h3.pull 6).cell 1
     have v2 := (h3.pull 6).cell 2
     have v3 := (h3.pull 6).cell 3
     have v4 := (h3.pull 6).cell 4
     simp at v0 v1 v2 v3 v4
     have hsr := desk_setRoot (n := v.n) (a := v.ks) (b := v.kg) (c := v.ss) (e := v.sg) (h3.pull 9) (by simp [newD]) (by simp [newD])
     clear h3
     go_wp2_with fail
     refine hsr.mono ?_
     rintro e w9 ⟨rfl, h4, k4⟩
     clear hsr v0 v1 v2 v3 v4
     have t0c := (h4.pull 1).cell 0
     have htl := (h4.pull 1).lt
     simp at t0c
     go_upto_region 16 with (fail)
     go_quiet (fail)
     have G := h4.drewN nq
     have q5 := (k2.trans k4).drewN nq
     generalize w9.drewN nq = w10 at G q5 ⊢
     clear h4 t0c htl
     go_wp2_with fail
     refine bodyPost_ret (v := .tuple #[.pointer (some ⟨d, 0, none⟩), .pointer (some ⟨s, 0, none⟩), vl]) (by simp [results, Tryz.results45, go_sem]) rfl ?_
     exact ⟨d, s, mk, ms, L, v, vl, AK, FK, AS, FS, GK, GS, tK, tS, ks, rfl, HE.out, HEK.out, HVN.out, HV2.out, HR2.out.1, HR2.out.2.1, HR2.out.2.2.1, HR2.out.2.2.2, vgC G, q5⟩
   obtain ⟨k, hk⟩ : ∃ k, ks[i]? = some k := ⟨_, List.getElem?_eq_getElem (by rw [← HM.out]; exact hlt)⟩
   have hn2 : ∀ y ∈ ks.take i, y.node ≠ k.node := by
     have e1 := take_snoc' hk
     have hnd : ((ks.take (i + 1)).map KidD.node).Nodup := List.Nodup.sublist ((List.take_sublist _ _).map _) HEK.out.nodup
     rw [e1, List.map_append, List.nodup_append] at hnd
     exact fun y hy => hnd.2.2 _ (List.mem_map.2 ⟨y, hy, rfl⟩) _ (by simp)
   have e1 := take_snoc' hk
   have hV := HV.out
   have hR := HRM.out
   have hz : (ks.take i).length ≤ 8 := by rw [List.length_take]; omega
   have zk := hV.zk
   have zs := hV.zs
   have hse := fun (W' : World) (l' : List HProp) (hW' : Sat W' (own s (.cells (stoC mk ms) 80 (0, 0)) :: mapK mk 2000 AK FK :: mapS ms 2000 AS FS :: l')) => store_set_new (n := k.node) (nu := k.up) (nm := k.name) hW' (hV.none hn2) hV.ks hV.kg hV.ss hV.sg hV.k.rep hV.s.rep hV.k.hi hV.s.hi hV.k.wf hV.s.wf (by omega) (by omega) (by decide) (by decide) hV.lk hV.ls (by omega) (by omega) (by omega) (by omega)
   have HN2 := Lib.hid hn2
   have E1 := Lib.hid e1
   have HK := Lib.hid hk
   rcases (h2.pull 4).tForm with ⟨_, hp⟩ | ⟨g, off, gcap, hfv⟩
   · rw [hp] at hk; simp at hk
   simp only [Value.slice.injEq] at hfv
   obtain ⟨rfl, -, rfl⟩ := hfv
   have S0 := vgS hk h2
   have HS0 := Lib.hid S0
   obtain ⟨⟨a0, a1, a2, a3, a4⟩, b0, b1, b2, b3, b4, b5, b6⟩ := S0
   have i0' : (0 : Int) ≤ (i : Int) := by omega
   have i1' : (i : Int) < (m : Int) := by omega
   have RK := Lib.hid (show (tK.size + 1 : Int) ≤ roomA 2000 AK FK ∧ (tS.size + 1 : Int) ≤ roomA 2000 AS FS ∧ tK.size ≤ 8 ∧ tS.size ≤ 8 by omega)
   unfold aggV at hse
   clear hk hn2 e1 hV hR zk zs hz
   go_upto_region 11 with (fail)
   have HSE := Lib.hid hse
   have zA := hse _ _ h2.drew
   have zB := hse _ _ ((h2.alloc (.cells #[.int .i64 0, .int .i64 0, .int .i64 0, .int .i64 0, .int .i64 0] 58)).push 8).drew
   have hC := ((((h2.alloc (.cells #[.int .i64 0, .int .i64 0, .int .i64 0, .int .i64 0, .int .i64 0] 58)).push 8).alloc (.cells #[.slice none 0 0, .slice none 0 0, .slice none 0 0, .slice none 0 0] 94)).push 9).drew
   simp only [World.size_alloc] at hC
   have zC := hse _ _ hC
   clear hC
   have hE := ((((h2.alloc (.cells #[.slice none 0 0, .slice none 0 0, .slice none 0 0, .slice none 0 0] 94)).push 8).alloc (.cells #[.int .i64 0, .int .i64 0, .int .i64 0, .int .i64 0, .int .i64 0] 58)).push 9).drew
   simp only [World.size_alloc] at hE
   have zE := hse _ _ hE
   clear hE
   have zD := hse _ _ ((h2.alloc (.cells #[.slice none 0 0, .slice none 0 0, .slice none 0 0, .slice none 0 0] 94)).push 8).drew
   clear hse
   go_cut [15, 16, 17] from 38 to 57 (fun bv cv iv wx => ∃ (B C : Nat) (AK1 : List SlotK) (FK1 : List Int) (TK : HTK) (nK : List Hd) (AS1 : List SlotS) (FS1 : List Int) (TS : HTS) (nS : List Hd) (AK2 : List SlotK) (FK2 : List Int) (AS2 : List SlotS) (FS2 : List Int), bv = .pointer (some ⟨B, 0, none⟩) ∧ cv = .pointer (some ⟨C, 0, none⟩) ∧ iv = .bool true ∧
     Laid 2000 AK FK GK (putT kord k true tK).1 AK1 FK1 TK nK ∧ Laid 2000 AS FS GS (putT cmpI k.node ⟨true, k.up, k.name⟩ tS).1 AS1 FS1 TS nS ∧
     FreesA 2000 AK1 FK1 (GK + freshT (putT kord k true tK).1) (bothH ([] ++ nK) ([] ++ (putT kord k true tK).2)) AK2 FK2 ∧ FreesA 2000 AS1 FS1 (GS + freshT (putT cmpI k.node ⟨true, k.up, k.name⟩ tS).1) (bothH ([] ++ nS) ([] ++ (putT cmpI k.node ⟨true, k.up, k.name⟩ tS).2)) AS2 FS2 ∧
     Sat wx (own B (.cells #[.int .i64 v.n, .int .i64 TK.root.s, .int .i64 TK.root.g, .int .i64 TS.root.s, .int .i64 TS.root.g] 58 (0, 0)) :: own s (.cells (stoC mk ms) 80 (0, 0)) :: mapK mk 2000 AK2 FK2 :: mapS ms 2000 AS2 FS2 :: own V (.cells #[.int .i64 v.n, .int .i64 v.ks, .int .i64 v.kg, .int .i64 v.ss, .int .i64 v.sg] 58 (0, 0)) :: rowT fCh (.slice (some ⟨g, off, none⟩) m cc) 101 7 ks :: refP t L Ws :: oldH W :: deskP d (newD 3 queue) :: l) ∧ Kp wr wx)
   case first =>
     have SH0 := vgS HK.out h2.drew
     have SH1 := fun (o : Array Value) (ot : TypeId) => vgS HK.out ((h2.alloc (.cells o ot)).push 8).drew
     have SH2 := fun (o : Array Value) (ot : TypeId) (p : Array Value) (pt : TypeId) => vgS HK.out ((((h2.alloc (.cells o ot)).push 8).alloc (.cells p pt)).push 9).drew
     go_region_held3 (fun w' => (w'.cell? ⟨V, 0, none⟩ = some (.int .i64 v.n) ∧ w'.cell? ⟨V, 1, none⟩ = some (.int .i64 v.ks) ∧ w'.cell? ⟨V, 2, none⟩ = some (.int .i64 v.kg) ∧ w'.cell? ⟨V, 3, none⟩ = some (.int .i64 v.ss) ∧ w'.cell? ⟨V, 4, none⟩ = some (.int .i64 v.sg)) ∧
     (w'.cell? ⟨g, off + i * 7, none⟩ = some (.int .i64 k.node) ∧ w'.cell? ⟨g, off + i * 7 + 1, none⟩ = some (.bool false) ∧ w'.cell? ⟨g, off + i * 7 + 2, none⟩ = some (.int .i64 0) ∧ w'.cell? ⟨g, off + i * 7 + 3, none⟩ = some (.string ⟨#[]⟩) ∧ w'.cell? ⟨g, off + i * 7 + 4, none⟩ = some (.bool true) ∧ w'.cell? ⟨g, off + i * 7 + 5, none⟩ = some (.int .i64 k.up) ∧ w'.cell? ⟨g, off + i * 7 + 6, none⟩ = some (.string k.name))) (first | with_reducible exact HS0.out | with_reducible exact SH0 | with_reducible exact SH1 _ _ | with_reducible exact SH2 _ _ _ _ | with_reducible exact SA | with_reducible exact SA1 _ _ | with_reducible exact SA2 _ _ _ _ | with_reducible exact SB1 _ _ _ _ _ | with_reducible exact SB2 _ _ _ _ _ _ _ | with_reducible exact SB3 _ _ _ _ _ _ _ | with_reducible exact SB4 _ _ _ _ _ _ _ _ _ | with_reducible exact SC1 _ _ _ _ | with_reducible exact SC2 _ _ _ _ _ _ | with_reducible exact SC3 _ _ _ _ _ _ | fail) ((first
       | (go_at_call 43; (with_reducible refine zA.mono ?_); rintro e w9 hQ; unfold SetQ at hQ; obtain ⟨D, q1, q2, q3, q4, AK1, FK1, TK, nK, AS1, FS1, TS, nS, AK2, FK2, AS2, FS2, rfl, rfl, LK, LS, FK', FS', h3, k3⟩ := hQ; obtain ⟨y1, z1, rfl⟩ := h3.tLen; obtain ⟨y2, z2, rfl⟩ := (h3.pull 1).tLen; obtain ⟨y3, z3, rfl⟩ := (h3.pull 2).tLen; obtain ⟨y4, z4, rfl⟩ := (h3.pull 3).tLen; simp only [aggV]; have SA := vgS HK.out h3.tail.tail.tail.tail; have SA1 := fun (o : Array Value) (ot : TypeId) => vgS HK.out ((h3.alloc (.cells o ot)).tail.tail.tail.tail.tail); have SA2 := fun (o : Array Value) (ot : TypeId) (p : Array Value) (pt : TypeId) => vgS HK.out (((h3.alloc (.cells o ot)).alloc (.cells p pt)).tail.tail.tail.tail.tail.tail))
       | (go_at_call 43; (with_reducible refine zB.mono ?_); rintro e w9 hQ; unfold SetQ at hQ; obtain ⟨D, q1, q2, q3, q4, AK1, FK1, TK, nK, AS1, FS1, TS, nS, AK2, FK2, AS2, FS2, rfl, rfl, LK, LS, FK', FS', h3, k3⟩ := hQ; obtain ⟨y1, z1, rfl⟩ := h3.tLen; obtain ⟨y2, z2, rfl⟩ := (h3.pull 1).tLen; obtain ⟨y3, z3, rfl⟩ := (h3.pull 2).tLen; obtain ⟨y4, z4, rfl⟩ := (h3.pull 3).tLen; simp only [aggV]; have SA := vgS HK.out h3.tail.tail.tail.tail; have SA1 := fun (o : Array Value) (ot : TypeId) => vgS HK.out ((h3.alloc (.cells o ot)).tail.tail.tail.tail.tail); have SA2 := fun (o : Array Value) (ot : TypeId) (p : Array Value) (pt : TypeId) => vgS HK.out (((h3.alloc (.cells o ot)).alloc (.cells p pt)).tail.tail.tail.tail.tail.tail); have SB1 := fun (x0 x1 x2 x3 x4 : Value) => vgS HK.out (((((((h3.pull 12).set 0 x0).set 1 x1).set 2 x2).set 3 x3).set 4 x4).tail.tail.tail.tail.tail); have SB2 := fun (x0 x1 x2 x3 x4 : Value) (o : Array Value) (ot : TypeId) => vgS HK.out ((((((((h3.pull 12).set 0 x0).set 1 x1).set 2 x2).set 3 x3).set 4 x4).alloc (.cells o ot)).tail.tail.tail.tail.tail.tail); have SB3 := fun (o : Array Value) (ot : TypeId) (x0 x1 x2 x3 x4 : Value) => vgS HK.out ((((((((h3.alloc (.cells o ot)).pull 13).set 0 x0).set 1 x1).set 2 x2).set 3 x3).set 4 x4).tail.tail.tail.tail.tail.tail); have nv0 := (h3.pull 12).cell 0; have nvf0 := (h3.pull 12).free 0; have nv1 := (h3.pull 12).cell 1; have nvf1 := (h3.pull 12).free 1; have nv2 := (h3.pull 12).cell 2; have nvf2 := (h3.pull 12).free 2; have nv3 := (h3.pull 12).cell 3; have nvf3 := (h3.pull 12).free 3; have nv4 := (h3.pull 12).cell 4; have nvf4 := (h3.pull 12).free 4; simp at nv0 nv1 nv2 nv3 nv4; have nvl := (h3.pull 12).lt)
       | (go_at_call 43; (with_reducible refine zC.mono ?_); rintro e w9 hQ; unfold SetQ at hQ; obtain ⟨D, q1, q2, q3, q4, AK1, FK1, TK, nK, AS1, FS1, TS, nS, AK2, FK2, AS2, FS2, rfl, rfl, LK, LS, FK', FS', h3, k3⟩ := hQ; obtain ⟨y1, z1, rfl⟩ := h3.tLen; obtain ⟨y2, z2, rfl⟩ := (h3.pull 1).tLen; obtain ⟨y3, z3, rfl⟩ := (h3.pull 2).tLen; obtain ⟨y4, z4, rfl⟩ := (h3.pull 3).tLen; simp only [aggV]; have SA := vgS HK.out h3.tail.tail.tail.tail; have SA1 := fun (o : Array Value) (ot : TypeId) => vgS HK.out ((h3.alloc (.cells o ot)).tail.tail.tail.tail.tail); have SA2 := fun (o : Array Value) (ot : TypeId) (p : Array Value) (pt : TypeId) => vgS HK.out (((h3.alloc (.cells o ot)).alloc (.cells p pt)).tail.tail.tail.tail.tail.tail); have SB1 := fun (x0 x1 x2 x3 x4 : Value) => vgS HK.out (((((((h3.pull 12).set 0 x0).set 1 x1).set 2 x2).set 3 x3).set 4 x4).tail.tail.tail.tail.tail); have SB4 := fun (x0 x1 x2 x3 x4 : Value) (y0 y1 y2 y3 : Value) => vgS HK.out ((((((((((((h3.pull 12).set 0 x0).set 1 x1).set 2 x2).set 3 x3).set 4 x4).pull 13).set 0 y0).set 1 y1).set 2 y2).set 3 y3).tail.tail.tail.tail.tail.tail); have nv0 := (h3.pull 12).cell 0; have nvf0 := (h3.pull 12).free 0; have nv1 := (h3.pull 12).cell 1; have nvf1 := (h3.pull 12).free 1; have nv2 := (h3.pull 12).cell 2; have nvf2 := (h3.pull 12).free 2; have nv3 := (h3.pull 12).cell 3; have nvf3 := (h3.pull 12).free 3; have nv4 := (h3.pull 12).cell 4; have nvf4 := (h3.pull 12).free 4; simp at nv0 nv1 nv2 nv3 nv4; have nvl := (h3.pull 12).lt; have nt0 := (h3.pull 13).cell 0; have ntf0 := (h3.pull 13).free 0; have nt1 := (h3.pull 13).cell 1; have ntf1 := (h3.pull 13).free 1; have nt2 := (h3.pull 13).cell 2; have ntf2 := (h3.pull 13).free 2; have nt3 := (h3.pull 13).cell 3; have ntf3 := (h3.pull 13).free 3; simp at nt0 nt1 nt2 nt3; have ntl := (h3.pull 13).lt; have nne := ((h3.pull 12).pull 13).ne; have nne' := nne.symm)
       | (go_at_call 43; (with_reducible refine zD.mono ?_); rintro e w9 hQ; unfold SetQ at hQ; obtain ⟨D, q1, q2, q3, q4, AK1, FK1, TK, nK, AS1, FS1, TS, nS, AK2, FK2, AS2, FS2, rfl, rfl, LK, LS, FK', FS', h3, k3⟩ := hQ; obtain ⟨y1, z1, rfl⟩ := h3.tLen; obtain ⟨y2, z2, rfl⟩ := (h3.pull 1).tLen; obtain ⟨y3, z3, rfl⟩ := (h3.pull 2).tLen; obtain ⟨y4, z4, rfl⟩ := (h3.pull 3).tLen; simp only [aggV]; have SA := vgS HK.out h3.tail.tail.tail.tail; have SA1 := fun (o : Array Value) (ot : TypeId) => vgS HK.out ((h3.alloc (.cells o ot)).tail.tail.tail.tail.tail); have SA2 := fun (o : Array Value) (ot : TypeId) (p : Array Value) (pt : TypeId) => vgS HK.out (((h3.alloc (.cells o ot)).alloc (.cells p pt)).tail.tail.tail.tail.tail.tail); have SC1 := fun (y0 y1 y2 y3 : Value) => vgS HK.out ((((((h3.pull 12).set 0 y0).set 1 y1).set 2 y2).set 3 y3).tail.tail.tail.tail.tail); have SC2 := fun (y0 y1 y2 y3 : Value) (o : Array Value) (ot : TypeId) => vgS HK.out (((((((h3.pull 12).set 0 y0).set 1 y1).set 2 y2).set 3 y3).alloc (.cells o ot)).tail.tail.tail.tail.tail.tail); have SC3 := fun (o : Array Value) (ot : TypeId) (y0 y1 y2 y3 : Value) => vgS HK.out (((((((h3.alloc (.cells o ot)).pull 13).set 0 y0).set 1 y1).set 2 y2).set 3 y3).tail.tail.tail.tail.tail.tail); have nt0 := (h3.pull 12).cell 0; have ntf0 := (h3.pull 12).free 0; have nt1 := (h3.pull 12).cell 1; have ntf1 := (h3.pull 12).free 1; have nt2 := (h3.pull 12).cell 2; have ntf2 := (h3.pull 12).free 2; have nt3 := (h3.pull 12).cell 3; have ntf3 := (h3.pull 12).free 3; simp at nt0 nt1 nt2 nt3; have ntl := (h3.pull 12).lt)
       | (go_at_call 43; (with_reducible refine zE.mono ?_); rintro e w9 hQ; unfold SetQ at hQ; obtain ⟨D, q1, q2, q3, q4, AK1, FK1, TK, nK, AS1, FS1, TS, nS, AK2, FK2, AS2, FS2, rfl, rfl, LK, LS, FK', FS', h3, k3⟩ := hQ; obtain ⟨y1, z1, rfl⟩ := h3.tLen; obtain ⟨y2, z2, rfl⟩ := (h3.pull 1).tLen; obtain ⟨y3, z3, rfl⟩ := (h3.pull 2).tLen; obtain ⟨y4, z4, rfl⟩ := (h3.pull 3).tLen; simp only [aggV]; have SA := vgS HK.out h3.tail.tail.tail.tail; have SA1 := fun (o : Array Value) (ot : TypeId) => vgS HK.out ((h3.alloc (.cells o ot)).tail.tail.tail.tail.tail); have SA2 := fun (o : Array Value) (ot : TypeId) (p : Array Value) (pt : TypeId) => vgS HK.out (((h3.alloc (.cells o ot)).alloc (.cells p pt)).tail.tail.tail.tail.tail.tail); have SB1 := fun (x0 x1 x2 x3 x4 : Value) => vgS HK.out (((((((h3.pull 13).set 0 x0).set 1 x1).set 2 x2).set 3 x3).set 4 x4).tail.tail.tail.tail.tail); have SB4 := fun (x0 x1 x2 x3 x4 : Value) (y0 y1 y2 y3 : Value) => vgS HK.out ((((((((((((h3.pull 13).set 0 x0).set 1 x1).set 2 x2).set 3 x3).set 4 x4).pull 13).set 0 y0).set 1 y1).set 2 y2).set 3 y3).tail.tail.tail.tail.tail.tail); have SC1 := fun (y0 y1 y2 y3 : Value) => vgS HK.out ((((((h3.pull 12).set 0 y0).set 1 y1).set 2 y2).set 3 y3).tail.tail.tail.tail.tail); have nt0 := (h3.pull 12).cell 0; have ntf0 := (h3.pull 12).free 0; have nt1 := (h3.pull 12).cell 1; have ntf1 := (h3.pull 12).free 1; have nt2 := (h3.pull 12).cell 2; have ntf2 := (h3.pull 12).free 2; have nt3 := (h3.pull 12).cell 3; have ntf3 := (h3.pull 12).free 3; simp at nt0 nt1 nt2 nt3; have ntl := (h3.pull 12).lt; have nv0 := (h3.pull 13).cell 0; have nvf0 := (h3.pull 13).free 0; have nv1 := (h3.pull 13).cell 1; have nvf1 := (h3.pull 13).free 1; have nv2 := (h3.pull 13).cell 2; have nvf2 := (h3.pull 13).free 2; have nv3 := (h3.pull 13).cell 3; have nvf3 := (h3.pull 13).free 3; have nv4 := (h3.pull 13).cell 4; have nvf4 := (h3.pull 13).free 4; simp at nv0 nv1 nv2 nv3 nv4; have nvl := (h3.pull 13).lt; have nne := ((h3.pull 12).pull 13).ne; have nne' := nne.symm)))
     all_goals
       go_wp2_with fail
       go_meet
       case rel =>
         have LK2 : Laid 2000 AK FK GK (putT kord k true tK).1 AK1 FK1 TK nK := LK
         have FK2' : FreesA 2000 AK1 FK1 (GK + freshT (putT kord k true tK).1) (bothH ([] ++ nK) ([] ++ (putT kord k true tK).2)) AK2 FK2 := FK'
         clear LK FK'
         first
         | (have hq := nne; have hq2 := SC1; exact ⟨_, _, AK1, FK1, TK, nK, AS1, FS1, TS, nS, AK2, FK2, AS2, FS2, rfl, rfl, rfl, LK2, LS, FK2', FS', (((((((((((h3.pull 13).set 0 (.int .i64 v.n)).set 1 (.int .i64 TK.root.s)).set 2 (.int .i64 TK.root.g)).set 3 (.int .i64 TS.root.s)).set 4 (.int .i64 TS.root.g)).pull 13).set 0 _).set 1 _).set 2 _).set 3 _).tail.swap.tail.swap.tail.swap.tail.swap.tail, ((((((((((((((Kp.refl wr).alloc _).alloc _).drew).trans k3).setCell _ _).setCell _ _).setCell _ _).setCell _ _).setCell _ _).setCell _ _).setCell _ _).setCell _ _).setCell _ _)⟩)
         | (have hq := nne; exact ⟨_, _, AK1, FK1, TK, nK, AS1, FS1, TS, nS, AK2, FK2, AS2, FS2, rfl, rfl, rfl, LK2, LS, FK2', FS', (((((((((((h3.pull 12).set 0 (.int .i64 v.n)).set 1 (.int .i64 TK.root.s)).set 2 (.int .i64 TK.root.g)).set 3 (.int .i64 TS.root.s)).set 4 (.int .i64 TS.root.g)).pull 13).set 0 _).set 1 _).set 2 _).set 3 _).tail.swap.tail.swap.tail.swap.tail.swap.tail, ((((((((((((((Kp.refl wr).alloc _).alloc _).drew).trans k3).setCell _ _).setCell _ _).setCell _ _).setCell _ _).setCell _ _).setCell _ _).setCell _ _).setCell _ _).setCell _ _)⟩)
         | (have hq := SB3; exact ⟨_, _, AK1, FK1, TK, nK, AS1, FS1, TS, nS, AK2, FK2, AS2, FS2, rfl, rfl, rfl, LK2, LS, FK2', FS', (((((((h3.pull 12).set 0 (.int .i64 v.n)).set 1 (.int .i64 TK.root.s)).set 2 (.int .i64 TK.root.g)).set 3 (.int .i64 TS.root.s)).set 4 (.int .i64 TS.root.g)).alloc _).tail.swap.tail.swap.tail.swap.tail.swap.tail, ((((((((((Kp.refl wr).alloc _).drew).trans k3).setCell _ _).setCell _ _).setCell _ _).setCell _ _).setCell _ _).alloc _)⟩)
         | (have hq := SC3; exact ⟨_, _, AK1, FK1, TK, nK, AS1, FS1, TS, nS, AK2, FK2, AS2, FS2, rfl, rfl, rfl, LK2, LS, FK2', FS', vgD (((((h3.pull 12).set 0 _).set 1 _).set 2 _).set 3 _).tail.tail.tail.tail.tail (by simp only [World.size_setCell]), (((((((((Kp.refl wr).alloc _).drew).trans k3).setCell _ _).setCell _ _).setCell _ _).setCell _ _).alloc _)⟩)
         | exact ⟨_, _, AK1, FK1, TK, nK, AS1, FS1, TS, nS, AK2, FK2, AS2, FS2, rfl, rfl, rfl, LK2, LS, FK2', FS', vgA1 h3.tail.tail.tail.tail, ((((Kp.refl wr).drew.trans k3).alloc _).alloc _)⟩
         | exact ⟨_, _, AK1, FK1, TK, nK, AS1, FS1, TS, nS, AK2, FK2, AS2, FS2, rfl, rfl, rfl, LK2, LS, FK2', FS', vgA2 h3.tail.tail.tail.tail, ((((Kp.refl wr).drew.trans k3).alloc _).alloc _)⟩
   case rest =>
     clear zA zB zC zD zE a0 a1 a2 a3 a4 b0 b1 b2 b3 b4 b5 b6
     obtain ⟨B, C, AK1, FK1, TK, nK, AS1, FS1, TS, nS, AK2, FK2, AS2, FS2, rfl, rfl, rfl, LK, LS, FK', FS', h3, k3⟩ := hcut
     obtain ⟨gK, gS, g1, g2, g3, -, -, g4, g5⟩ := HV.out.put HN2.out RK.out.1 RK.out.2.1 LK LS FK' FS'
     rw [← E1.out] at g3
     have HV2 := Lib.hid g3
     have HR2 := Lib.hid (show (2000 - 9 * ((i + 1 : Nat) : Int) : Int) ≤ roomA 2000 AK2 FK2 ∧ (2000 - 9 * ((i + 1 : Nat) : Int) : Int) ≤ roomA 2000 AS2 FS2 ∧ GK + gK ≤ 9 * (i + 1) ∧ GS + gS ≤ 9 * (i + 1) by
       have := HRM.out
       have := RK.out
       push_cast
       omega)
     clear g1 g2 g3 g4 g5 LK LS FK' FS' h2
     have b0 := (h3).cell 0
     have b1 := (h3).cell 1
     have b2 := (h3).cell 2
     have b3 := (h3).cell 3
     have b4 := (h3).cell 4
     simp at b0 b1 b2 b3 b4
     have v0 := (h3.pull 4).cell 0
     have v1 := (h3.pull 4).cell 1
     have v2 := (h3.pull 4).cell 2
     have v3 := (h3.pull 4).cell 3
     have v4 := (h3.pull 4).cell 4
     have vf0 := (h3.pull 4).free 0
     have vf1 := (h3.pull 4).free 1
     have vf2 := (h3.pull 4).free 2
     have vf3 := (h3.pull 4).free 3
     have vf4 := (h3.pull 4).free 4
     simp at v0 v1 v2 v3 v4
     have hbl := h3.lt
     have hvl := (h3.pull 4).lt
     have hne := (h3.pull 4).ne
     have h4 := ((((((h3.pull 4).set 0 (.int .i64 v.n)).set 1 (.int .i64 TK.root.s)).set 2 (.int .i64 TK.root.g)).set 3 (.int .i64 TS.root.s)).set 4 (.int .i64 TS.root.g))
     have k4 := ((((((k2.trans k3).setCell ⟨V, 0, none⟩ (.int .i64 v.n)).setCell ⟨V, 1, none⟩ (.int .i64 TK.root.s)).setCell ⟨V, 2, none⟩ (.int .i64 TK.root.g)).setCell ⟨V, 3, none⟩ (.int .i64 TS.root.s)).setCell ⟨V, 4, none⟩ (.int .i64 TS.root.g))
     clear h3 k2 k3
     go_wp2_with fail
     go_roundw
     case rel => exact ⟨i + 1, { v with ks := TK.root.s, kg := TK.root.g, ss := TS.root.s, sg := TS.root.g }, AK2, FK2, AS2, FS2, GK + gK, GS + gS, TK, TS, by go_num, by omega, HVN, HV2, HR2, ((h4.swap.tail).push 3), k4⟩
     case measure => simp [intOf]; omega
end Go.Proofs.YtddglbjhhnipgaaGreatDoor

import Derived.Test.YtddglbjhhnipgaaGreatDoorIE
import Derived.Test.YtddglbjhhnipgaaGreatDoorIP
namespace Go.Proofs.YtddglbjhhnipgaaGreatDoor
open Go Go.RowKit
set_option linter.unusedVariables false
set_option linter.unusedSimpArgs false
set_option maxRecDepth 100000
set_option maxHeartbeats 8000000
/-- A tree whose first item is opened. -/
def itemOS : HTS → Value → HProp
 | .leaf, p => lift (p = .pointer none)
 | .node oh k v l r hi, p => ex fun b : Nat => ex fun pl => ex fun pr => all [lift (p = .pointer (some ⟨b, 0, none⟩)), own b (.cells (itCS (hdOf oh) k v pl pr hi) 273 (0, 0)), itemS l pl, itemS r pr]
theorem itemOS_E {w : World} {fr : List HProp} {p : Value} {oh : Option Hd} {k : Int} {v : SpD} {l r : HTS} {hi : Int} (hs : Sat w (itemOS (.node oh k v l r hi) p :: fr)) :
   ∃ (b : Nat) (pl pr : Value), p = .pointer (some ⟨b, 0, none⟩) ∧ Sat w (own b (.cells (itCS (hdOf oh) k v pl pr hi) 273 (0, 0)) :: itemS l pl :: itemS r pr :: fr) := by
 obtain ⟨b, h⟩ := hs.exE
 obtain ⟨pl, h⟩ := h.exE
 obtain ⟨pr, h⟩ := h.exE
 exact ⟨b, pl, pr, h.allE.liftE⟩
theorem itemOS_I {w : World} {fr : List HProp} {b : Nat} {oh : Option Hd} {k : Int} {v : SpD} {l r : HTS} {hi : Int} {pl pr : Value} (hs : Sat w (own b (.cells (itCS (hdOf oh) k v pl pr hi) 273 (0, 0)) :: itemS l pl :: itemS r pr :: fr)) :
   Sat w (itemOS (.node oh k v l r hi) (.pointer (some ⟨b, 0, none⟩)) :: fr) := Sat.exI b (Sat.exI pl (Sat.exI pr (Sat.allI (Sat.liftI rfl hs))))
theorem itemOS_fold {w : World} {fr : List HProp} {p : Value} {t : HTS} (hs : Sat w (itemOS t p :: fr)) : Sat w (itemS t p :: fr) := by
 cases t with
 | leaf => exact hs
 | node oh k v l r hi =>
   obtain ⟨b, pl, pr, rfl, h⟩ := itemOS_E hs
   exact itemS_I h
/-- What a tree is like. -/
structure GoodS (A : List SlotS) (t : HTS) : Prop where
 rep : RepF A t
 hi : HiOk t
 size : t.size ≤ 1000000
theorem GoodS.high {A : List SlotS} {t : HTS} (h : GoodS A t) : 0 ≤ t.high ∧ t.high ≤ 1000000000 := by
 have := h.hi.pos
 have := h.size
 omega
theorem GoodS.kids {A : List SlotS} {oh : Option Hd} {k : Int} {v : SpD} {l r : HTS} {hi : Int} (h : GoodS A (.node oh k v l r hi)) : GoodS A l ∧ GoodS A r ∧ ∀ x, oh = some x → 1 ≤ x.s := by
 have hz := h.size
 simp only [HT.size] at hz
 refine ⟨⟨h.rep.left, h.hi.2.1, by omega⟩, ⟨h.rep.right, h.hi.2.2, by omega⟩, fun x e => ?_⟩
 subst e
 obtain ⟨⟨hd, e, s, ⟨i, h1, _⟩, _⟩, _⟩ := h.rep
 cases e
 omega
theorem GoodS.node {A : List SlotS} {k : Int} {v : SpD} {l r : HTS} (hl : GoodS A l) (hr : GoodS A r) (hz : l.size + r.size < 1000000) : GoodS A (nodeT k v l r) := ⟨nodeT_rep hl.rep hr.rep, nodeT_hi hl.hi hr.hi, by unfold nodeT; simp only [HT.size]; omega⟩
theorem itemS_highO {w : World} {e m : Nat} {fr : List HProp} {p : Value} {t : HTS} {gone : List Hd} {most : Int} {A : List SlotS} {F : List Int} (hs : Sat w (itemS t p :: editS e m gone :: mapS m most A F :: fr)) (hR : RepF A t) :
   Calls Tryz.prog 194 #[.pointer (some ⟨e, 0, none⟩), p] w fun x w' => x = .returned (.int .i64 t.high) ∧ Sat w' (itemOS t p :: editS e m gone :: mapS m most A F :: fr) ∧ Kp w w' := by
 cases t with
 | leaf =>
   obtain ⟨rfl, _⟩ := itemS_leafE hs
   go_enter Tryz.func194, Tryz.ntmps194
   go_wp2_with fail
   go_ret
   exact ⟨rfl, hs, Kp.refl w⟩
 | node oh k v l r hi =>
   obtain ⟨b0, rfl, _⟩ := itemS_E hs
   have hop := itemS_opened hs hR
   have HOP := Lib.hid hop
   clear hop hR
   go_enter Tryz.func194, Tryz.ntmps194
   go_wp2_with fail
   refine HOP.out.mono ?_
   rintro x w1 ⟨rfl, b, pl, pr, he, h1, k1⟩
   simp only [Value.pointer.injEq, Option.some.injEq, Addr.mk.injEq, and_true] at he
   subst he
   have b9 := h1.cell 9
   simp [itCS] at b9
   go_wp2_with fail
   go_ret
   exact ⟨rfl, itemOS_I h1, k1⟩
theorem linkCS {w : World} {b : Nat} {fr : List HProp} {h : Hd} {k : Int} {v : SpD} {pl pr : Value} {hi : Int} {ty : TypeId} (hs : Sat w (own b (.cells (itCS h k v pl pr hi) ty (0, 0)) :: fr)) : w.cell? ⟨b, 7, none⟩ = some pl ∧ w.cell? ⟨b, 8, none⟩ = some pr := ⟨hs.cell 7, hs.cell 8⟩
theorem itemS_fromLeft {w : World} {e m b bl : Nat} {fr : List HProp} {oh lh : Option Hd} {k lk : Int} {v lv' : SpD} {x y : Value} {z : Int} {ll lr R : HTS} {lhi : Int} {pll plr pr : Value} {gone : List Hd} {most : Int} {A : List SlotS} {F : List Int}
   (hs : Sat w (own b (.cells (itCS (hdOf oh) k v x y z) 273 (0, 0)) :: own bl (.cells (itCS (hdOf lh) lk lv' pll plr lhi) 273 (0, 0)) :: itemS ll pll :: itemS lr plr :: itemS R pr :: editS e m gone :: mapS m most A F :: fr))
   (hp : ∀ h, oh = some h → 1 ≤ h.s) (hg : gone.length ≤ 10000000) (hL : GoodS A (.node lh lk lv' ll lr lhi)) (hR : GoodS A R) (hz : (HT.node lh lk lv' ll lr lhi).size + R.size < 1000000) (hd : 2 ≤ lhi) :
   Calls Tryz.prog 195 #[.pointer (some ⟨e, 0, none⟩), .pointer (some ⟨b, 0, none⟩), .pointer (some ⟨bl, 0, none⟩), pr] w fun x' w' => ∃ q, x' = .returned (.pointer q) ∧ Sat w' (itemS (fromL oh k v (.node lh lk lv' ll lr lhi) R).1 (.pointer q) :: editS e m (gone ++ (fromL oh k v (.node lh lk lv' ll lr lhi) R).2) :: mapS m most A F :: own b (.cells (itCS (hdOf oh) k v x y z) 273 (0, 0)) :: fr) ∧ Kp w w' := by
 obtain ⟨gl, gr, hlp⟩ := hL.kids
 obtain ⟨qll, rfl⟩ := itemS_form (hs.pull 2)
 obtain ⟨qlr, rfl⟩ := itemS_form (hs.pull 3)
 obtain ⟨qr, rfl⟩ := itemS_form (hs.pull 4)
 simp only [HT.size] at hz
 have GL := Lib.hid gl
 have GR := Lib.hid gr
 have GX := Lib.hid hR
 have HP := Lib.hid hp
 have HLP := Lib.hid hlp
 have hhi := hL.hi.1
 obtain ⟨c7, c8⟩ := linkCS (hs.pull 1)
 have hbl := (hs.pull 1).lt
 have hh1 := itemS_highO ((((hs.pull 5).push 0).pull 6).swap.pull 4).drew gl.rep
 have hh2 := fun (W : World) (fr' : List HProp) (hW : Sat W (itemS lr (.pointer qlr) :: editS e m gone :: mapS m most A F :: fr')) => itemS_highO hW gr.rep
 have HH2 := Lib.hid hh2
 have hlh := gl.high
 have hrh := gr.high
 clear hh2 gl gr hlp hs hL hR hp hhi
 have HFL := Lib.hid (show lr.high ≤ ll.high → fromL oh k v (.node lh lk lv' ll lr lhi) R = (nodeT lk lv' ll (nodeT k v lr R), lv oh ++ lv lh) from fun h => by unfold fromL; simp [h])
 have HFR := Lib.hid (show ∀ mh mk mv ml mr mhi, lr = .node mh mk mv ml mr mhi → ¬ lr.high ≤ ll.high → fromL oh k v (.node lh lk lv' ll lr lhi) R = (nodeT mk mv (nodeT lk lv' ll ml) (nodeT k v mr R), lv lh ++ (lv oh ++ lv mh)) from fun mh mk mv ml mr mhi e h => by subst e; unfold fromL; simp [h])
 obtain ⟨RES, hRES⟩ : ∃ RES, fromL oh k v (.node lh lk lv' ll lr lhi) R = RES := ⟨_, rfl⟩
 rw [hRES]
 rw [hRES] at HFL HFR
 clear hRES
 obtain ⟨a, ha⟩ : ∃ a, ll.high = a := ⟨_, rfl⟩
 obtain ⟨c, hc⟩ : ∃ c, lr.high = c := ⟨_, rfl⟩
 rw [ha] at hh1 hlh HFL HFR
 rw [hc] at hrh HFL HFR HH2
 have HC := Lib.hid hc
 clear ha hc
 go_enter Tryz.func195, Tryz.ntmps195
 go_wp2_with fail
 go_region_held3 (fun w' => w'.cell? ⟨bl, 7, none⟩ = some (.pointer qll) ∧ w'.cell? ⟨bl, 8, none⟩ = some (.pointer qlr)) (first | go_keep | exact ⟨c7, c8⟩ | exact linkCS (h3.pull 5) | exact linkCS (h2.pull 4))
   ((first | (go_at_call 194; (with_reducible refine hh1.mono ?_); rintro x1 w2 ⟨rfl, h2, k2⟩; have hh3 := HH2.out _ _ ((h2.pull 5).swap.push 3)) | (go_at_call 194; (with_reducible refine hh3.mono ?_); rintro x2 w3 ⟨rfl, h3, k3⟩)))
 have k3 := ((Kp.refl w).drew.trans k2).trans k3
 clear hh1 c7 c8 hbl
 obtain ⟨c7, c8⟩ := linkCS (h3.pull 5)
 have hbl := (h3.pull 5).lt
 by_cases hac : c ≤ a
 · have hn1 := itemS_node ((((itemOS_fold h3).pull 4).pull 6).push 2).drew HP.out (by omega) GR.out.rep GX.out.rep GR.out.high GX.out.high
   have hn2 := fun (W : World) (fr' : List HProp) (q : Option Addr) (gone' : List Hd) (hg' : gone'.length ≤ 100000000) (hW : Sat W (own bl (.cells (itCS (hdOf lh) lk lv' (.pointer qll) (.pointer qlr) lhi) 273 (0, 0)) :: itemS ll (.pointer qll) :: itemS (nodeT k v lr R) (.pointer q) :: editS e m gone' :: mapS m most A F :: fr')) => itemS_node hW HLP.out hg' GL.out.rep (nodeT_rep GR.out.rep GX.out.rep) GL.out.high (GR.out.node GX.out (by omega)).high
   have HN2 := Lib.hid hn2
   have HRES := Lib.hid (HFL.out hac)
   have HGL := Lib.hid (show (gone ++ lv oh).length ≤ 100000000 by rw [List.length_append]; cases oh <;> simp [lv] <;> omega)
   clear hn2
   go_wp2_with fail
   go_region_held3 (fun w' => w'.cell? ⟨bl, 7, none⟩ = some (.pointer qll) ∧ w'.cell? ⟨bl, 8, none⟩ = some (.pointer qlr)) (first | go_keep | exact ⟨c7, c8⟩ | exact linkCS (h5.pull 3) | exact linkCS (h4.pull 5))
     ((first | (go_at_call 197; (with_reducible refine hn1.mono ?_); rintro x1 w4 ⟨q1, rfl, h4, k4⟩; have hn3 := HN2.out _ _ _ _ HGL.out ((itemOS_fold (h4.pull 4)).pull 5)) | (go_at_call 197; (with_reducible refine hn3.mono ?_); rintro x2 w5 ⟨q2, rfl, h5, k5⟩)))
   go_wp2_with fail
   go_ret
   refine ⟨q2, rfl, ?_, (k3.drew.trans k4).trans k5⟩
   rw [HRES.out]
   have h6 := (h5.pull 3).tail
   rw [List.append_assoc] at h6
   exact h6
 · obtain ⟨mh, mk, mv, ml, mr, mhi, rfl⟩ : ∃ mh mk mv ml mr mhi, lr = HT.node mh mk mv ml mr mhi := by
     cases lr with
     | leaf => have := HC.out; simp only [HT.high] at this; omega
     | node mh mk mv ml mr mhi => exact ⟨_, _, _, _, _, _, rfl⟩
   obtain ⟨gm1, gm2, hmp⟩ := GR.out.kids
   have GM1 := Lib.hid gm1
   have GM2 := Lib.hid gm2
   have HMP := Lib.hid hmp
   have HRES := Lib.hid (HFR.out _ _ _ _ _ _ rfl (by omega))
   simp only [HT.size] at hz
   have hop := itemS_opened (itemOS_fold h3) GR.out.rep
   have HOP := Lib.hid hop
   clear gm1 gm2 hmp hop
   go_wp2_with fail
   refine HOP.out.mono ?_
   rintro x3 w4 ⟨rfl, bm, pml, pmr, he, h4, k4⟩
   simp only [Value.pointer.injEq] at he
   subst he
   have k4 := k3.trans k4
   obtain ⟨qml, rfl⟩ := itemS_form (h4.pull 1)
   obtain ⟨qmr, rfl⟩ := itemS_form (h4.pull 2)
   clear h3 k3 c7 c8 hbl
   have d0 := (linkCS (h4.pull 7)).1
   obtain ⟨d1, d2⟩ := linkCS h4
   have dl0 := (h4.pull 7).lt
   have dl1 := h4.lt
   have hn1 := itemS_node ((((((itemOS_fold (h4.pull 5)).pull 5).pull 5).pull 4).pull 3).pull 7).drew HLP.out (by omega) GL.out.rep GM1.out.rep GL.out.high GM1.out.high
   have hn2 := fun (W : World) (fr' : List HProp) (gone' : List Hd) (hg' : gone'.length ≤ 100000000) (hW : Sat W (own b (.cells (itCS (hdOf oh) k v x y z) 273 (0, 0)) :: itemS mr (.pointer qmr) :: itemS R (.pointer qr) :: editS e m gone' :: mapS m most A F :: fr')) => itemS_node hW HP.out hg' GM2.out.rep GX.out.rep GM2.out.high GX.out.high
   have hn3 := fun (W : World) (fr' : List HProp) (q1 q2 : Option Addr) (gone' : List Hd) (hg' : gone'.length ≤ 100000000) (hW : Sat W (own bm (.cells (itCS (hdOf mh) mk mv (.pointer qml) (.pointer qmr) mhi) 273 (0, 0)) :: itemS (nodeT lk lv' ll ml) (.pointer q1) :: itemS (nodeT k v mr R) (.pointer q2) :: editS e m gone' :: mapS m most A F :: fr')) => itemS_node hW HMP.out hg' (GL.out.node GM1.out (by omega)).rep (GM2.out.node GX.out (by omega)).rep (GL.out.node GM1.out (by omega)).high (GM2.out.node GX.out (by omega)).high
   have HN2 := Lib.hid hn2
   have HN3 := Lib.hid hn3
   have HGL := Lib.hid (show (gone ++ lv lh).length ≤ 100000000 by rw [List.length_append]; cases lh <;> simp [lv] <;> omega)
   have HGM := Lib.hid (show ((gone ++ lv lh) ++ lv oh).length ≤ 100000000 by rw [List.length_append, List.length_append]; cases lh <;> cases oh <;> simp [lv] <;> omega)
   clear hn2 hn3
   go_wp2_with fail
   go_region_held3 (fun w' => w'.cell? ⟨bl, 7, none⟩ = some (.pointer qll) ∧ w'.cell? ⟨bm, 7, none⟩ = some (.pointer qml) ∧ w'.cell? ⟨bm, 8, none⟩ = some (.pointer qmr)) (first | go_keep | exact ⟨d0, d1, d2⟩ | exact ⟨(linkCS (h7.pull 5)).1, linkCS (h7.pull 3)⟩ | exact ⟨(linkCS (h6.pull 5)).1, linkCS (h6.pull 6)⟩ | exact ⟨(linkCS (h5.pull 3)).1, linkCS (h5.pull 4)⟩)
     ((first | (go_at_call 197; (with_reducible refine hn1.mono ?_); rintro x1 w5 ⟨q1, rfl, h5, k5⟩; have hn4 := HN2.out _ _ _ HGL.out (((((h5.pull 2).pull 2).pull 7).pull 6).pull 7)) | (go_at_call 197; (with_reducible refine hn4.mono ?_); rintro x2 w6 ⟨q2, rfl, h6, k6⟩; have hn5 := HN3.out _ _ _ _ _ HGM.out ((h6.pull 4).pull 6)) | (go_at_call 197; (with_reducible refine hn5.mono ?_); rintro x3 w7 ⟨q3, rfl, h7, k7⟩)))
   go_wp2_with fail
   go_ret
   refine ⟨q3, rfl, ?_, ((k4.drew.trans k5).trans k6).trans k7⟩
   rw [HRES.out]
   have h8 := ((h7.pull 3).tail.pull 4).tail
   rw [List.append_assoc, List.append_assoc] at h8
   exact h8
theorem itemS_fromRight {w : World} {e m b br : Nat} {fr : List HProp} {oh rh : Option Hd} {k rk : Int} {v rv : SpD} {x y : Value} {z : Int} {rl rr L : HTS} {rhi : Int} {prl prr pl : Value} {gone : List Hd} {most : Int} {A : List SlotS} {F : List Int}
   (hs : Sat w (own b (.cells (itCS (hdOf oh) k v x y z) 273 (0, 0)) :: own br (.cells (itCS (hdOf rh) rk rv prl prr rhi) 273 (0, 0)) :: itemS rl prl :: itemS rr prr :: itemS L pl :: editS e m gone :: mapS m most A F :: fr))
   (hp : ∀ h, oh = some h → 1 ≤ h.s) (hg : gone.length ≤ 10000000) (hR : GoodS A (.node rh rk rv rl rr rhi)) (hL : GoodS A L) (hz : (HT.node rh rk rv rl rr rhi).size + L.size < 1000000) (hd : 2 ≤ rhi) :
   Calls Tryz.prog 196 #[.pointer (some ⟨e, 0, none⟩), .pointer (some ⟨b, 0, none⟩), pl, .pointer (some ⟨br, 0, none⟩)] w fun x' w' => ∃ q, x' = .returned (.pointer q) ∧ Sat w' (itemS (fromR oh k v L (.node rh rk rv rl rr rhi)).1 (.pointer q) :: editS e m (gone ++ (fromR oh k v L (.node rh rk rv rl rr rhi)).2) :: mapS m most A F :: own b (.cells (itCS (hdOf oh) k v x y z) 273 (0, 0)) :: fr) ∧ Kp w w' := by
 obtain ⟨gl, gr, hrp⟩ := hR.kids
 obtain ⟨qrl, rfl⟩ := itemS_form (hs.pull 2)
 obtain ⟨qrr, rfl⟩ := itemS_form (hs.pull 3)
 obtain ⟨ql, rfl⟩ := itemS_form (hs.pull 4)
 simp only [HT.size] at hz
 have GL := Lib.hid gl
 have GR := Lib.hid gr
 have GX := Lib.hid hL
 have HP := Lib.hid hp
 have HRP := Lib.hid hrp
 obtain ⟨c7, c8⟩ := linkCS (hs.pull 1)
 have hbl := (hs.pull 1).lt
 have hh1 := itemS_highO ((((hs.pull 5).push 0).pull 6).swap.pull 5).drew gr.rep
 have hh2 := fun (W : World) (fr' : List HProp) (hW : Sat W (itemS rl (.pointer qrl) :: editS e m gone :: mapS m most A F :: fr')) => itemS_highO hW gl.rep
 have HH2 := Lib.hid hh2
 have hlh := gl.high
 have hrh := gr.high
 clear hh2 gl gr hrp hs hL hR hp
 have HFL := Lib.hid (show rl.high ≤ rr.high → fromR oh k v L (.node rh rk rv rl rr rhi) = (nodeT rk rv (nodeT k v L rl) rr, lv oh ++ lv rh) from fun h => by unfold fromR; simp [h])
 have HFR := Lib.hid (show ∀ mh mk mv ml mr mhi, rl = .node mh mk mv ml mr mhi → ¬ rl.high ≤ rr.high → fromR oh k v L (.node rh rk rv rl rr rhi) = (nodeT mk mv (nodeT k v L ml) (nodeT rk rv mr rr), lv oh ++ (lv rh ++ lv mh)) from fun mh mk mv ml mr mhi e h => by subst e; unfold fromR; simp [h])
 obtain ⟨RES, hRES⟩ : ∃ RES, fromR oh k v L (.node rh rk rv rl rr rhi) = RES := ⟨_, rfl⟩
 rw [hRES]
 rw [hRES] at HFL HFR
 clear hRES
 obtain ⟨a, ha⟩ : ∃ a, rr.high = a := ⟨_, rfl⟩
 obtain ⟨c, hc⟩ : ∃ c, rl.high = c := ⟨_, rfl⟩
 rw [ha] at hh1 hrh HFL HFR
 rw [hc] at hlh HFL HFR HH2
 have HC := Lib.hid hc
 clear ha hc
 go_enter Tryz.func196, Tryz.ntmps196
 go_wp2_with fail
 go_region_held3 (fun w' => w'.cell? ⟨br, 7, none⟩ = some (.pointer qrl) ∧ w'.cell? ⟨br, 8, none⟩ = some (.pointer qrr)) (first | go_keep | exact ⟨c7, c8⟩ | exact linkCS (h3.pull 5) | exact linkCS (h2.pull 4))
   ((first | (go_at_call 194; (with_reducible refine hh1.mono ?_); rintro x1 w2 ⟨rfl, h2, k2⟩; have hh3 := HH2.out _ _ ((h2.pull 5).swap.push 3)) | (go_at_call 194; (with_reducible refine hh3.mono ?_); rintro x2 w3 ⟨rfl, h3, k3⟩)))
 have k3 := ((Kp.refl w).drew.trans k2).trans k3
 clear hh1 c7 c8 hbl
 obtain ⟨c7, c8⟩ := linkCS (h3.pull 5)
 have hbl := (h3.pull 5).lt
 by_cases hac : c ≤ a
 · have hn1 := itemS_node (((itemOS_fold h3).pull 6).pull 5).drew HP.out (by omega) GX.out.rep GL.out.rep GX.out.high GL.out.high
   have hn2 := fun (W : World) (fr' : List HProp) (q : Option Addr) (gone' : List Hd) (hg' : gone'.length ≤ 100000000) (hW : Sat W (own br (.cells (itCS (hdOf rh) rk rv (.pointer qrl) (.pointer qrr) rhi) 273 (0, 0)) :: itemS (nodeT k v L rl) (.pointer q) :: itemS rr (.pointer qrr) :: editS e m gone' :: mapS m most A F :: fr')) => itemS_node hW HRP.out hg' (nodeT_rep GX.out.rep GL.out.rep) GR.out.rep (GX.out.node GL.out (by omega)).high GR.out.high
   have HN2 := Lib.hid hn2
   have HRES := Lib.hid (HFL.out hac)
   have HGL := Lib.hid (show (gone ++ lv oh).length ≤ 100000000 by rw [List.length_append]; cases oh <;> simp [lv] <;> omega)
   clear hn2
   go_wp2_with fail
   go_region_held3 (fun w' => w'.cell? ⟨br, 7, none⟩ = some (.pointer qrl) ∧ w'.cell? ⟨br, 8, none⟩ = some (.pointer qrr)) (first | go_keep | exact ⟨c7, c8⟩ | exact linkCS (h5.pull 3) | exact linkCS (h4.pull 5))
     ((first | (go_at_call 197; (with_reducible refine hn1.mono ?_); rintro x1 w4 ⟨q1, rfl, h4, k4⟩; have hn3 := HN2.out _ _ _ _ HGL.out ((itemOS_fold (h4.pull 4)).swap.pull 5)) | (go_at_call 197; (with_reducible refine hn3.mono ?_); rintro x2 w5 ⟨q2, rfl, h5, k5⟩)))
   go_wp2_with fail
   go_ret
   refine ⟨q2, rfl, ?_, (k3.drew.trans k4).trans k5⟩
   rw [HRES.out]
   have h6 := (h5.pull 3).tail
   rw [List.append_assoc] at h6
   exact h6
 · obtain ⟨mh, mk, mv, ml, mr, mhi, rfl⟩ : ∃ mh mk mv ml mr mhi, rl = HT.node mh mk mv ml mr mhi := by
     cases rl with
     | leaf => have := HC.out; simp only [HT.high] at this; omega
     | node mh mk mv ml mr mhi => exact ⟨_, _, _, _, _, _, rfl⟩
   obtain ⟨gm1, gm2, hmp⟩ := GL.out.kids
   have GM1 := Lib.hid gm1
   have GM2 := Lib.hid gm2
   have HMP := Lib.hid hmp
   have HRES := Lib.hid (HFR.out _ _ _ _ _ _ rfl (by omega))
   simp only [HT.size] at hz
   have hop := itemS_opened (itemOS_fold h3) GL.out.rep
   have HOP := Lib.hid hop
   clear gm1 gm2 hmp hop
   go_wp2_with fail
   refine HOP.out.mono ?_
   rintro x3 w4 ⟨rfl, bm, pml, pmr, he, h4, k4⟩
   simp only [Value.pointer.injEq] at he
   subst he
   have k4 := k3.trans k4
   obtain ⟨qml, rfl⟩ := itemS_form (h4.pull 1)
   obtain ⟨qmr, rfl⟩ := itemS_form (h4.pull 2)
   clear h3 k3 c7 c8 hbl
   have d0 := (linkCS (h4.pull 7)).2
   obtain ⟨d1, d2⟩ := linkCS h4
   have dl0 := (h4.pull 7).lt
   have dl1 := h4.lt
   have hn1 := itemS_node (((((h4.pull 4).pull 4).pull 3).pull 8).pull 7).drew HP.out (by omega) GX.out.rep GM1.out.rep GX.out.high GM1.out.high
   have hn2 := fun (W : World) (fr' : List HProp) (gone' : List Hd) (hg' : gone'.length ≤ 100000000) (hW : Sat W (own br (.cells (itCS (hdOf rh) rk rv (.pointer (some ⟨bm, 0, none⟩)) (.pointer qrr) rhi) 273 (0, 0)) :: itemS mr (.pointer qmr) :: itemS rr (.pointer qrr) :: editS e m gone' :: mapS m most A F :: fr')) => itemS_node hW HRP.out hg' GM2.out.rep GR.out.rep GM2.out.high GR.out.high
   have hn3 := fun (W : World) (fr' : List HProp) (q1 q2 : Option Addr) (gone' : List Hd) (hg' : gone'.length ≤ 100000000) (hW : Sat W (own bm (.cells (itCS (hdOf mh) mk mv (.pointer qml) (.pointer qmr) mhi) 273 (0, 0)) :: itemS (nodeT k v L ml) (.pointer q1) :: itemS (nodeT rk rv mr rr) (.pointer q2) :: editS e m gone' :: mapS m most A F :: fr')) => itemS_node hW HMP.out hg' (GX.out.node GM1.out (by omega)).rep (GM2.out.node GR.out (by omega)).rep (GX.out.node GM1.out (by omega)).high (GM2.out.node GR.out (by omega)).high
   have HN2 := Lib.hid hn2
   have HN3 := Lib.hid hn3
   have HGL := Lib.hid (show (gone ++ lv oh).length ≤ 100000000 by rw [List.length_append]; cases oh <;> simp [lv] <;> omega)
   have HGM := Lib.hid (show ((gone ++ lv oh) ++ lv rh).length ≤ 100000000 by rw [List.length_append, List.length_append]; cases rh <;> cases oh <;> simp [lv] <;> omega)
   clear hn2 hn3
   go_wp2_with fail
   go_region_held3 (fun w' => w'.cell? ⟨br, 8, none⟩ = some (.pointer qrr) ∧ w'.cell? ⟨bm, 7, none⟩ = some (.pointer qml) ∧ w'.cell? ⟨bm, 8, none⟩ = some (.pointer qmr)) (first | go_keep | exact ⟨d0, d1, d2⟩ | exact ⟨(linkCS (h7.pull 4)).2, linkCS (h7.pull 3)⟩ | exact ⟨(linkCS (h6.pull 3)).2, linkCS (h6.pull 6)⟩ | exact ⟨(linkCS (h5.pull 7)).2, linkCS (h5.pull 4)⟩)
     ((first | (go_at_call 197; (with_reducible refine hn1.mono ?_); rintro x1 w5 ⟨q1, rfl, h5, k5⟩; have hn4 := HN2.out _ _ _ HGL.out ((((((itemOS_fold (h5.pull 6)).pull 3).pull 3).pull 2).pull 6).pull 7)) | (go_at_call 197; (with_reducible refine hn4.mono ?_); rintro x2 w6 ⟨q2, rfl, h6, k6⟩; have hn5 := HN3.out _ _ _ _ _ HGM.out ((h6.pull 4).pull 6)) | (go_at_call 197; (with_reducible refine hn5.mono ?_); rintro x3 w7 ⟨q3, rfl, h7, k7⟩)))
   go_wp2_with fail
   go_ret
   refine ⟨q3, rfl, ?_, ((k4.drew.trans k5).trans k6).trans k7⟩
   rw [HRES.out]
   have h8 := ((h7.pull 3).tail.pull 3).tail
   rw [List.append_assoc, List.append_assoc] at h8
   exact h8
theorem itemS_balance {w : World} {e m b : Nat} {fr : List HProp} {oh : Option Hd} {k : Int} {v : SpD} {x y : Value} {z : Int} {L R : HTS} {pl pr : Value} {gone : List Hd} {most : Int} {A : List SlotS} {F : List Int}
   (hs : Sat w (own b (.cells (itCS (hdOf oh) k v x y z) 273 (0, 0)) :: itemS L pl :: itemS R pr :: editS e m gone :: mapS m most A F :: fr))
   (hp : ∀ h, oh = some h → 1 ≤ h.s) (hg : gone.length ≤ 10000000) (hL : GoodS A L) (hR : GoodS A R) (hz : L.size + R.size < 1000000) :
   Calls Tryz.prog 171 #[.pointer (some ⟨e, 0, none⟩), .pointer (some ⟨b, 0, none⟩), pl, pr] w fun x' w' => ∃ q, x' = .returned (.pointer q) ∧ Sat w' (itemS (balT oh k v L R).1 (.pointer q) :: editS e m (gone ++ (balT oh k v L R).2) :: mapS m most A F :: own b (.cells (itCS (hdOf oh) k v x y z) 273 (0, 0)) :: fr) ∧ Kp w w' := by
 obtain ⟨ql, rfl⟩ := itemS_form (hs.pull 1)
 obtain ⟨qr, rfl⟩ := itemS_form (hs.pull 2)
 have GL := Lib.hid hL
 have GR := Lib.hid hR
 have HP := Lib.hid hp
 have hh1 := itemS_highO ((((hs.pull 3).pull 4).swap).pull 3) hL.rep
 have hh2 := fun (W : World) (fr' : List HProp) (hW : Sat W (itemS R (.pointer qr) :: editS e m gone :: mapS m most A F :: fr')) => itemS_highO hW hR.rep
 have HH1 := Lib.hid hh1
 have HH2 := Lib.hid hh2
 obtain ⟨hl1, hl2⟩ := hL.high
 obtain ⟨hr1, hr2⟩ := hR.high
 clear hh1 hh2 hs hL hR hp
 have HB1 := Lib.hid (show 1 < L.high - R.high → balT oh k v L R = fromL oh k v L R from fun h => by unfold balT; simp [h])
 have HB2 := Lib.hid (show ¬ 1 < L.high - R.high → L.high - R.high < -1 → balT oh k v L R = fromR oh k v L R from fun h h' => by unfold balT; simp [h, h'])
 have HB3 := Lib.hid (show ¬ 1 < L.high - R.high → ¬ L.high - R.high < -1 → balT oh k v L R = (nodeT k v L R, lv oh) from fun h h' => by unfold balT; simp [h, h'])
 obtain ⟨RES, hRES⟩ : ∃ RES, balT oh k v L R = RES := ⟨_, rfl⟩
 rw [hRES]
 rw [hRES] at HB1 HB2 HB3
 clear hRES
 obtain ⟨lh, hlh⟩ : ∃ lh, L.high = lh := ⟨_, rfl⟩
 obtain ⟨rh, hrh⟩ : ∃ rh, R.high = rh := ⟨_, rfl⟩
 rw [hlh] at HH1 hl1 hl2
 rw [hrh] at HH2 hr1 hr2
 rw [hlh, hrh] at HB1 HB2 HB3
 have HLH := Lib.hid hlh
 have HRH := Lib.hid hrh
 clear hlh hrh
 have hw1 : IntKind.i64.wrap (lh - rh) = lh - rh := by rw [IntWalk.i64_in _ (by omega)]
 go_enter Tryz.func171, Tryz.ntmps171
 go_wp2_with fail
 refine HH1.out.mono ?_
 rintro x1 w2 ⟨rfl, h2, k2⟩
 go_wp2_with fail
 refine (HH2.out _ _ ((((h2.pull 3).pull 3).pull 3).pull 4)).mono ?_
 rintro x2 w3 ⟨rfl, h3, k3⟩
 have k3 := k2.trans k3
 clear HH1 HH2 h2 k2
 by_cases hd1 : 1 < lh - rh
 · obtain ⟨lh', lk, lv', ll, lr, lhi, rfl⟩ : ∃ lh' lk lv' ll lr lhi, L = HT.node lh' lk lv' ll lr lhi := by
     cases L with
     | leaf => have := HLH.out; simp only [HT.high] at this; omega
     | node a b c d e f => exact ⟨_, _, _, _, _, _, rfl⟩
   have hlx : 2 ≤ lhi := by have := HLH.out; simp only [HT.high] at this; omega
   obtain ⟨bl, pll, plr, he, h4⟩ := itemOS_E (h3.pull 4)
   simp only [Value.pointer.injEq] at he
   subst he
   have hf := itemS_fromLeft (((itemOS_fold (h4.pull 3)).push 3).pull 6) HP.out hg GL.out GR.out hz hlx
   have HF := Lib.hid hf
   have HRES := HB1.out hd1
   have HRES := Lib.hid HRES
   clear hf h3 h4
   go_wp2_with fail
   refine HF.out.mono ?_
   rintro x4 w4 ⟨q4, rfl, h5, k5⟩
   go_wp2_with fail
   go_ret
   refine ⟨q4, rfl, ?_, k3.trans k5⟩
   rw [HRES.out]
   exact h5
 · by_cases hd2 : lh - rh < -1
   · obtain ⟨rh', rk, rv, rl, rr, rhi, rfl⟩ : ∃ rh' rk rv rl rr rhi, R = HT.node rh' rk rv rl rr rhi := by
       cases R with
       | leaf => have := HRH.out; simp only [HT.high] at this; omega
       | node a b c d e f => exact ⟨_, _, _, _, _, _, rfl⟩
     have hlx : 2 ≤ rhi := by have := HRH.out; simp only [HT.high] at this; omega
     obtain ⟨br, prl, prr, he, h4⟩ := itemOS_E h3
     simp only [Value.pointer.injEq] at he
     subst he
     have hf := itemS_fromRight (((itemOS_fold (h4.pull 6)).push 3).pull 6) HP.out hg GR.out GL.out (by omega) hlx
     have HF := Lib.hid hf
     have HRES := HB2.out (by omega) hd2
     have HRES := Lib.hid HRES
     clear hf h3 h4
     go_wp2_with fail
     refine HF.out.mono ?_
     rintro x4 w4 ⟨q4, rfl, h5, k5⟩
     go_wp2_with fail
     go_ret
     refine ⟨q4, rfl, ?_, k3.trans k5⟩
     rw [HRES.out]
     exact h5
   · have hf := itemS_node ((itemOS_fold ((itemOS_fold h3).pull 4)).pull 4) HP.out (by omega) GL.out.rep GR.out.rep GL.out.high GR.out.high
     have HF := Lib.hid hf
     have HRES := HB3.out (by omega) (by omega)
     have HRES := Lib.hid HRES
     clear hf h3
     go_wp2_with fail
     refine HF.out.mono ?_
     rintro x4 w4 ⟨q4, rfl, h5, k5⟩
     go_wp2_with fail
     go_ret
     refine ⟨q4, rfl, ?_, k3.trans k5⟩
     rw [HRES.out]
     exact h5
/-- What the map's order is. -/
def CmpOkS (C : Int → Int → Int) : Prop := ∀ (a b : Int) (w : World) (l : List HProp), Sat w l → Calls Tryz.prog 63 #[.int .i64 a, .int .i64 b] w fun x w' => x = .returned (.int .i64 (C a b)) ∧ Sat w' l ∧ Kp w w'
theorem GoodS.put {A : List SlotS} {t : HTS} (h : GoodS A t) (C : Int → Int → Int) (k : Int) (v : SpD) (hz : t.size < 1000000) : GoodS A (putT C k v t).1 := ⟨putT_rep h.rep, putT_hi h.hi, by have := putT_size C k v t; omega⟩
theorem cmpCS {w : World} {e m : Nat} {gone : List Hd} {most : Int} {A : List SlotS} {F : List Int} {fr : List HProp} (hs : Sat w (editS e m gone :: mapS m most A F :: fr)) : w.cell? ⟨e, 0, none⟩ = some (.pointer (some ⟨m, 0, none⟩)) ∧ w.cell? ⟨m, 1, none⟩ = some (.func (.func 63) #[] #[]) := by
 obtain ⟨v, h⟩ := editS_E hs
 obtain ⟨a, h2⟩ := mapS_E (h.pull 2)
 exact ⟨(h2.pull 2).cell 0, h2.cell 1⟩
theorem bxCS {w : World} {kb : Nat} {fr : List HProp} {k : Int} {v : SpD} {ty : TypeId} (hs : Sat w (own kb (.cells #[.bool v.inn, .int .i64 v.up, .string v.nm] ty (0, 0)) :: fr)) : w.cell? ⟨kb, 0, none⟩ = some (.bool v.inn) ∧ w.cell? ⟨kb, 1, none⟩ = some (.int .i64 v.up) ∧ w.cell? ⟨kb, 2, none⟩ = some (.string v.nm) := ⟨hs.cell 0, hs.cell 1, hs.cell 2⟩
theorem allCS {w : World} {b : Nat} {fr : List HProp} {h : Hd} {tk : Int} {tv : SpD} {pl pr : Value} {hi : Int} {ty : TypeId} (hs : Sat w (own b (.cells (itCS h tk tv pl pr hi) ty (0, 0)) :: fr)) : w.cell? ⟨b, 3, none⟩ = some (.int .i64 tk) ∧ w.cell? ⟨b, 4, none⟩ = some (.bool tv.inn) ∧ w.cell? ⟨b, 5, none⟩ = some (.int .i64 tv.up) ∧ w.cell? ⟨b, 6, none⟩ = some (.string tv.nm) :=
 ⟨hs.cell 3, hs.cell 4, hs.cell 5, hs.cell 6⟩
theorem itemS_put_leaf {C : Int → Int → Int} {w : World} {e : Nat} {fr : List HProp} {p : Value} {k : Int} {v : SpD} (hs : Sat w (itemS .leaf p :: fr)) :
   Calls Tryz.prog 145 #[.pointer (some ⟨e, 0, none⟩), p, .int .i64 k, .agg #[.bool v.inn, .int .i64 v.up, .string v.nm]] w fun x w' => ∃ q, x = .returned (.pointer q) ∧ Sat w' (itemS (putT C k v .leaf).1 (.pointer q) :: fr) ∧ Kp w w' := by
 obtain ⟨rfl, h0⟩ := itemS_leafE hs
 have hB := h0.alloc (.cells #[.bool v.inn, .int .i64 v.up, .string v.nm] 98)
 have kB := (Kp.refl w).alloc (.cells #[.bool v.inn, .int .i64 v.up, .string v.nm] 98)
 clear hs h0
 go_enter Tryz.func145, Tryz.ntmps145
 go_upto_region 1 with (fail)
 generalize World.alloc _ _ = w1 at hB kB ⊢
 generalize w.heap.size = kb at hB ⊢
 obtain ⟨b0, b1, b2⟩ := bxCS (k := k) (v := v) hB
 go_wp2_with fail
 go_ret
 refine ⟨_, rfl, ?_, kB.alloc _⟩
 have h2 := (itemS_leaf (itemS_leaf hB.tail)).alloc (.cells (itCS (hdOf none) k v (.pointer none) (.pointer none) 1) 273)
 simp only [putT]
 exact itemS_I h2
end Go.Proofs.YtddglbjhhnipgaaGreatDoor

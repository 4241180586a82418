import Derived.Test.YtddglbjhhnipgaaGreatDoorIB
import Derived.Test.YtddglbjhhnipgaaGreatDoorIP
namespace Go.Proofs.YtddglbjhhnipgaaGreatDoor
open Go Go.RowKit
set_option linter.unusedVariables false
set_option linter.unusedSimpArgs false
set_option maxRecDepth 100000
set_option maxHeartbeats 8000000
theorem itemK_put {C : KidD → KidD → Int} (hC : CmpOkK C) (k : KidD) (v : Bool) : ∀ (t : HTK) {w : World} {e m : Nat} {fr : List HProp} {p : Value} {gone : List Hd} {most : Int} {A : List SlotK} {F : List Int} (hs : Sat w (itemK t p :: editK e m gone :: mapK m most A F :: fr)) (hG : GoodK A t) (hz : t.size < 500000) (hg : gone.length + t.size ≤ 5000000),
   Calls Tryz.prog 144 #[.pointer (some ⟨e, 0, none⟩), p, .agg #[.int .i64 k.up, .string k.name, .int .i64 k.node], .bool v] w fun x w' => ∃ q, x = .returned (.pointer q) ∧ Sat w' (itemK (putT C k v t).1 (.pointer q) :: editK e m (gone ++ (putT C k v t).2) :: mapK m most A F :: fr) ∧ Kp w w'
 | .leaf, w, e, m, fr, p, gone, most, A, F, hs, hG, hz, hg => by
   refine (itemK_put_leaf (C := C) hs).mono ?_
   rintro x w' ⟨q, rfl, h, kk⟩
   refine ⟨q, rfl, ?_, kk⟩
   simpa [putT] using h
 | .node oh tk tv l r hi, w, e, m, fr, p, gone, most, A, F, hs, hG, hz, hg => by
   obtain ⟨gl, gr, hp⟩ := hG.kids
   simp only [HT.size] at hz hg
   have ihl := fun (W : World) (p' : Value) (fr' : List HProp) (hW : Sat W (itemK l p' :: editK e m gone :: mapK m most A F :: fr')) => itemK_put hC k v l hW gl (by omega) (by omega)
   have ihr := fun (W : World) (p' : Value) (fr' : List HProp) (hW : Sat W (itemK r p' :: editK e m gone :: mapK m most A F :: fr')) => itemK_put hC k v r hW gr (by omega) (by omega)
   have hbl := fun (W : World) (b : Nat) (x y : Value) (z : Int) (fr' : List HProp) (pl pr : Value) (hW : Sat W (own b (.cells (itCK (hdOf oh) tk tv x y z) 264 (0, 0)) :: itemK (putT C k v l).1 pl :: itemK r pr :: editK e m (gone ++ (putT C k v l).2) :: mapK m most A F :: fr')) => itemK_balance hW hp (by have := putT_gone C k v l; rw [List.length_append]; omega) (gl.put C k v (by omega)) gr (by have := putT_size C k v l; omega)
   have hbr := fun (W : World) (b : Nat) (x y : Value) (z : Int) (fr' : List HProp) (pl pr : Value) (hW : Sat W (own b (.cells (itCK (hdOf oh) tk tv x y z) 264 (0, 0)) :: itemK l pl :: itemK (putT C k v r).1 pr :: editK e m (gone ++ (putT C k v r).2) :: mapK m most A F :: fr')) => itemK_balance hW hp (by have := putT_gone C k v r; rw [List.length_append]; omega) gl (gr.put C k v (by omega)) (by have := putT_size C k v r; omega)
   have HP := Lib.hid hp
   have IHL := Lib.hid ihl
   have IHR := Lib.hid ihr
   have HBL := Lib.hid hbl
   have HBR := Lib.hid hbr
   have HG := Lib.hid (show gone.length ≤ 100000000 by omega)
   have HP1 := Lib.hid (show C k tk < 0 → putT C k v (.node oh tk tv l r hi) = ((balT oh tk tv (putT C k v l).1 r).1, (putT C k v l).2 ++ (balT oh tk tv (putT C k v l).1 r).2) from fun h => by simp only [putT]; rw [if_pos h])
   have HP2 := Lib.hid (show 0 < C k tk → putT C k v (.node oh tk tv l r hi) = ((balT oh tk tv l (putT C k v r).1).1, (putT C k v r).2 ++ (balT oh tk tv l (putT C k v r).1).2) from fun h => by simp only [putT]; rw [if_neg (by omega), if_pos h])
   have HP3 := Lib.hid (show C k tk = 0 → putT C k v (.node oh tk tv l r hi) = (.node none k v l r hi, lv oh) from fun h => by simp only [putT]; rw [if_neg (by omega), if_neg (by omega)])
   have HC := Lib.hid (hC k tk)
   obtain ⟨b, rfl, -⟩ := itemK_E hs
   have hB := hs.alloc (.cells #[.int .i64 k.up, .string k.name, .int .i64 k.node] 73)
   have kB := (Kp.refl w).alloc (.cells #[.int .i64 k.up, .string k.name, .int .i64 k.node] 73)
   have hR := hG.rep
   clear hs gl gr ihl ihr hbl hbr hp hG hC
   obtain ⟨RES, hRES⟩ : ∃ RES, putT C k v (.node oh tk tv l r hi) = RES := ⟨_, rfl⟩
   rw [hRES]
   rw [hRES] at HP1 HP2 HP3
   clear hRES
   obtain ⟨c, hc⟩ : ∃ c, C k tk = c := ⟨_, rfl⟩
   rw [hc] at HP1 HP2 HP3 HC
   clear hc
   go_enter Tryz.func144, Tryz.ntmps144
   go_upto_region 1 with (fail)
   generalize World.alloc _ _ = w1 at hB kB ⊢
   generalize w.heap.size = kb at hB ⊢
   have hop := itemK_opened (hB.push 3) hR
   have HOP := Lib.hid hop
   clear hop hB hR
   go_wp2_with fail
   refine HOP.out.mono ?_
   rintro x1 w2 ⟨rfl, b', pl, pr, he, h2, k2⟩
   simp only [Value.pointer.injEq, Option.some.injEq, Addr.mk.injEq, and_true] at he
   subst he
   clear HOP
   obtain ⟨ql, rfl⟩ := itemK_form (h2.pull 1)
   obtain ⟨qr, rfl⟩ := itemK_form (h2.pull 2)
   have k2 := kB.trans k2
   have hcp := HC.out _ _ h2.drew
   obtain ⟨e0, m1⟩ := cmpCK (h2.pull 4 |>.pull 4)
   obtain ⟨c3, c4, c5, c6⟩ := allCK h2
   obtain ⟨d0, d1, d2⟩ := bxCK (k := k) (v := v) (h2.pull 5)
   have hbl := h2.lt
   go_wp2_with fail
   go_region_held3 (fun w' => w'.cell? ⟨e, 0, none⟩ = some (.pointer (some ⟨m, 0, none⟩)) ∧ w'.cell? ⟨m, 1, none⟩ = some (.func (.func 61) #[] #[]) ∧ (w'.cell? ⟨b, 3, none⟩ = some (.int .i64 tk.up) ∧ w'.cell? ⟨b, 4, none⟩ = some (.string tk.name) ∧ w'.cell? ⟨b, 5, none⟩ = some (.int .i64 tk.node) ∧ w'.cell? ⟨b, 6, none⟩ = some (.bool tv)) ∧ (w'.cell? ⟨kb, 0, none⟩ = some (.int .i64 k.up) ∧ w'.cell? ⟨kb, 1, none⟩ = some (.string k.name) ∧ w'.cell? ⟨kb, 2, none⟩ = some (.int .i64 k.node))) (first | go_keep | exact ⟨e0, m1, ⟨c3, c4, c5, c6⟩, ⟨d0, d1, d2⟩⟩ | exact ⟨(cmpCK (h3.pull 4 |>.pull 4)).1, (cmpCK (h3.pull 4 |>.pull 4)).2, allCK h3, bxCK (k := k) (v := v) (h3.pull 5)⟩)
     ((go_at_call 61; (with_reducible refine hcp.mono ?_); rintro x1 w3 ⟨rfl, h3, k3⟩))
   have k3 := (k2.drew.trans k3)
   clear hcp e0 m1 c3 c4 c5 c6 d0 d1 d2 hbl h2
   by_cases hc1 : c < 0
   · have hp1 := IHL.out _ _ _ (((h3.push 4).swap.push 4)).drew
     have hp2 := fun (W : World) (q : Option Addr) (hW : Sat W (itemK (putT C k v l).1 (.pointer q) :: editK e m (gone ++ (putT C k v l).2) :: mapK m most A F :: own b (.cells (itCK (hdOf oh) tk tv (.pointer ql) (.pointer qr) hi) 264 (0, 0)) :: itemK r (.pointer qr) :: own kb (.cells #[.int .i64 k.up, .string k.name, .int .i64 k.node] 73 (0, 0)) :: fr)) => HBL.out _ _ _ _ _ _ _ _ (((hW.pull 4).swap).pull 4)
     have HP5 := Lib.hid hp2
     have HRES := Lib.hid (HP1.out hc1)
     obtain ⟨c7, c8⟩ := linkCK h3
     obtain ⟨d0, d1, d2⟩ := bxCK (k := k) (v := v) (h3.pull 5)
     have hbl := h3.lt
     clear hp2 h3
     go_wp2_with fail
     go_region_held3 (fun w' => (w'.cell? ⟨b, 7, none⟩ = some (.pointer ql) ∧ w'.cell? ⟨b, 8, none⟩ = some (.pointer qr)) ∧ (w'.cell? ⟨kb, 0, none⟩ = some (.int .i64 k.up) ∧ w'.cell? ⟨kb, 1, none⟩ = some (.string k.name) ∧ w'.cell? ⟨kb, 2, none⟩ = some (.int .i64 k.node))) (first | go_keep | exact ⟨⟨c7, c8⟩, ⟨d0, d1, d2⟩⟩ | exact ⟨linkCK (h5.pull 3), bxCK (k := k) (v := v) (h5.pull 4)⟩ | exact ⟨linkCK (h4.pull 3), bxCK (k := k) (v := v) (h4.pull 5)⟩)
       ((first | (go_at_call 144; (with_reducible refine hp1.mono ?_); rintro x2 w4 ⟨q1, rfl, h4, k4⟩; have hp3 := HP5.out _ _ h4) | (go_at_call 164; (with_reducible refine hp3.mono ?_); rintro x3 w5 ⟨q2, rfl, h5, k5⟩)))
     go_wp2_with fail
     go_ret
     refine ⟨q2, rfl, ?_, (k3.drew.trans k4).trans k5⟩
     rw [HRES.out]
     have h6 := ((h5.pull 3).tail.pull 3).tail
     rw [List.append_assoc] at h6
     exact h6
   by_cases hc2 : 0 < c
   · have hp1 := IHR.out _ _ _ (((h3.push 4).push 4)).drew
     have hp2 := fun (W : World) (q : Option Addr) (hW : Sat W (itemK (putT C k v r).1 (.pointer q) :: editK e m (gone ++ (putT C k v r).2) :: mapK m most A F :: own b (.cells (itCK (hdOf oh) tk tv (.pointer ql) (.pointer qr) hi) 264 (0, 0)) :: itemK l (.pointer ql) :: own kb (.cells #[.int .i64 k.up, .string k.name, .int .i64 k.node] 73 (0, 0)) :: fr)) => HBR.out _ _ _ _ _ _ _ _ (((hW.pull 4)).pull 4)
     have HP5 := Lib.hid hp2
     have HRES := Lib.hid (HP2.out hc2)
     obtain ⟨c7, c8⟩ := linkCK h3
     obtain ⟨d0, d1, d2⟩ := bxCK (k := k) (v := v) (h3.pull 5)
     have hbl := h3.lt
     clear hp2 h3
     go_wp2_with fail
     go_region_held3 (fun w' => (w'.cell? ⟨b, 7, none⟩ = some (.pointer ql) ∧ w'.cell? ⟨b, 8, none⟩ = some (.pointer qr)) ∧ (w'.cell? ⟨kb, 0, none⟩ = some (.int .i64 k.up) ∧ w'.cell? ⟨kb, 1, none⟩ = some (.string k.name) ∧ w'.cell? ⟨kb, 2, none⟩ = some (.int .i64 k.node))) (first | go_keep | exact ⟨⟨c7, c8⟩, ⟨d0, d1, d2⟩⟩ | exact ⟨linkCK (h5.pull 3), bxCK (k := k) (v := v) (h5.pull 4)⟩ | exact ⟨linkCK (h4.pull 3), bxCK (k := k) (v := v) (h4.pull 5)⟩)
       ((first | (go_at_call 144; (with_reducible refine hp1.mono ?_); rintro x2 w4 ⟨q1, rfl, h4, k4⟩; have hp3 := HP5.out _ _ h4) | (go_at_call 164; (with_reducible refine hp3.mono ?_); rintro x3 w5 ⟨q2, rfl, h5, k5⟩)))
     go_wp2_with fail
     go_ret
     refine ⟨q2, rfl, ?_, (k3.drew.trans k4).trans k5⟩
     rw [HRES.out]
     have h6 := ((h5.pull 3).tail.pull 3).tail
     rw [List.append_assoc] at h6
     exact h6
   · have hc3 : c = 0 := by omega
     have hlv := itemK_leave (h3.pull 3).swap HP.out HG.out
     have HLV := Lib.hid hlv
     have HRES := Lib.hid (HP3.out hc3)
     subst hc3
     clear hlv h3 hc1 hc2
     go_wp2_with fail
     refine HLV.out.mono ?_
     rintro x2 w4 ⟨rfl, h4, k4⟩
     obtain ⟨c7, c8⟩ := linkCK h4
     have c9 := h4.cell 9
     simp [itCK] at c9
     obtain ⟨d0, d1, d2⟩ := bxCK (k := k) (v := v) (h4.pull 5)
     go_wp2_with fail
     go_region_held3 (fun w' => w'.cell? ⟨b, 9, none⟩ = some (.int .i64 hi) ∧ (w'.cell? ⟨b, 7, none⟩ = some (.pointer ql) ∧ w'.cell? ⟨b, 8, none⟩ = some (.pointer qr)) ∧ (w'.cell? ⟨kb, 0, none⟩ = some (.int .i64 k.up) ∧ w'.cell? ⟨kb, 1, none⟩ = some (.string k.name) ∧ w'.cell? ⟨kb, 2, none⟩ = some (.int .i64 k.node))) (first | go_keep | exact ⟨c9, ⟨c7, c8⟩, ⟨d0, d1, d2⟩⟩)
       (fail)
     all_goals
       go_wp2_with fail
       go_ret
       refine ⟨_, rfl, ?_, (k3.trans k4).drew.alloc _⟩
       rw [HRES.out]
       exact itemK_I (oh := none) ((((((h4.drew.alloc (.cells (itCK (hdOf none) k v (.pointer ql) (.pointer qr) hi) 264)).pull 1).tail.pull 5).tail.pull 1).push 3))
theorem GoodK.least {A : List SlotK} : ∀ {l : HTK} {h : Option Hd} {k : KidD} {v : Bool} {r : HTK} {hi : Int}, GoodK A (.node h k v l r hi) → GoodK A (leastT h k v r l).2.1 ∧ ∀ x, (leastT h k v r l).1.1 = some x → 1 ≤ x.s
 | .leaf, h, k, v, r, hi, hG => ⟨hG.kids.2.1, hG.kids.2.2⟩
 | .node h' k' v' l' r' hi', h, k, v, r, hi, hG => ⟨⟨leastT_rep hG.kids.1.rep hG.kids.2.1.rep, leastT_hi hG.kids.1.hi hG.kids.2.1.hi, by have := hG.size; rw [leastT_size]; simp only [HT.size] at this ⊢; omega⟩, (GoodK.least hG.kids.1).2⟩
theorem itemK_least : ∀ (l : HTK) {oh : Option Hd} {k : KidD} {v : Bool} {r : HTK} {hi : Int} {w : World} {e m : Nat} {fr : List HProp} {p : Value} {gone : List Hd} {most : Int} {A : List SlotK} {F : List Int} (hs : Sat w (itemK (.node oh k v l r hi) p :: editK e m gone :: mapK m most A F :: fr)) (hG : GoodK A (.node oh k v l r hi)) (hz : l.size + r.size < 500000) (hg : gone.length + (l.size + r.size) ≤ 5000000),
   Calls Tryz.prog 166 #[.pointer (some ⟨e, 0, none⟩), p] w fun x w' => ∃ (bf : Nat) (x1 x2 : Value) (z : Int) (q : Option Addr), x = .returned (.tuple #[.pointer (some ⟨bf, 0, none⟩), .pointer q]) ∧ Sat w' (own bf (.cells (itCK (hdOf (leastT oh k v r l).1.1) (leastT oh k v r l).1.2.1 (leastT oh k v r l).1.2.2 x1 x2 z) 264 (0, 0)) :: itemK (leastT oh k v r l).2.1 (.pointer q) :: editK e m (gone ++ (leastT oh k v r l).2.2) :: mapK m most A F :: fr) ∧ Kp w w'
 | .leaf, oh, k, v, r, hi, w, e, m, fr, p, gone, most, A, F, hs, hG, hz, hg => by
   obtain ⟨b, rfl, -⟩ := itemK_E hs
   have hop := itemK_opened hs hG.rep
   have HOP := Lib.hid hop
   clear hop hs
   go_enter Tryz.func166, Tryz.ntmps166
   go_wp2_with fail
   refine HOP.out.mono ?_
   rintro x1 w2 ⟨rfl, b', pl, pr, he, h2, k2⟩
   simp only [Value.pointer.injEq, Option.some.injEq, Addr.mk.injEq, and_true] at he
   subst he
   obtain ⟨rfl, h3⟩ := itemK_leafE (h2.pull 1)
   obtain ⟨qr, rfl⟩ := itemK_form (h3.pull 1)
   obtain ⟨c7, c8⟩ := linkCK h3
   go_wp2_with fail
   go_region_held3 (fun w' => w'.cell? ⟨b, 8, none⟩ = some (.pointer qr)) (first | go_keep | exact c8) (fail)
   all_goals
     go_wp2_with fail
     refine bodyPost_ret (v := .tuple #[.pointer (some ⟨b, 0, none⟩), .pointer qr]) (by simp [results, Tryz.results166, go_sem]) rfl ⟨b, .pointer none, .pointer qr, hi, qr, rfl, ?_, k2.drew⟩
     simp only [leastT, List.append_nil]
     exact h3.drew
 | .node lh lk lv' ll lr lhi, oh, k, v, r, hi, w, e, m, fr, p, gone, most, A, F, hs, hG, hz, hg => by
   obtain ⟨b, rfl, -⟩ := itemK_E hs
   obtain ⟨gl, gr, hp⟩ := hG.kids
   simp only [HT.size] at hz hg
   have hop := itemK_opened hs hG.rep
   have ih := fun (W : World) (p' : Value) (fr' : List HProp) (hW : Sat W (itemK (.node lh lk lv' ll lr lhi) p' :: editK e m gone :: mapK m most A F :: fr')) => itemK_least ll hW gl (by omega) (by omega)
   have hb := fun (W : World) (b : Nat) (x y : Value) (z : Int) (fr' : List HProp) (pl pr : Value) (hW : Sat W (own b (.cells (itCK (hdOf oh) k v x y z) 264 (0, 0)) :: itemK (leastT lh lk lv' lr ll).2.1 pl :: itemK r pr :: editK e m (gone ++ (leastT lh lk lv' lr ll).2.2) :: mapK m most A F :: fr')) => itemK_balance hW hp (by have := leastT_gone ll lh lk lv' lr; rw [List.length_append]; omega) (GoodK.least gl).1 gr (by rw [leastT_size]; omega)
   have HOP := Lib.hid hop
   have IH := Lib.hid ih
   have HB := Lib.hid hb
   clear hop hs ih hb gl gr hp hG hz hg
   simp only [leastT]
   generalize leastT lh lk lv' lr ll = L at IH HB ⊢
   go_enter Tryz.func166, Tryz.ntmps166
   go_wp2_with fail
   refine HOP.out.mono ?_
   rintro x1 w2 ⟨rfl, b', pl, pr, he, h2, k2⟩
   simp only [Value.pointer.injEq, Option.some.injEq, Addr.mk.injEq, and_true] at he
   subst he
   obtain ⟨bl, rfl, -⟩ := itemK_E (h2.pull 1)
   obtain ⟨qr, rfl⟩ := itemK_form (h2.pull 2)
   obtain ⟨c7, c8⟩ := linkCK h2
   have ih := IH.out _ _ _ ((h2.push 4).swap.push 4)
   clear HOP
   go_wp2_with fail
   refine ih.mono ?_
   rintro x2 w3 ⟨bf, x3, x4, z, q, rfl, h4, k4⟩
   clear ih h2 c7 c8
   obtain ⟨c7, c8⟩ := linkCK (h4.pull 4)
   have hb := HB.out _ _ _ _ _ _ _ _ ((((h4.push 5).pull 4).swap).pull 4)
   clear HB IH h4
   go_wp2_with fail
   refine hb.mono ?_
   rintro x5 w4 ⟨q4, rfl, h5, k5⟩
   go_wp2_with fail
   refine bodyPost_ret (v := .tuple #[.pointer (some ⟨bf, 0, none⟩), .pointer q4]) (by simp [results, Tryz.results166, go_sem]) rfl ⟨bf, x3, x4, z, q4, rfl, ?_, (k2.trans k4).trans k5⟩
   rw [← List.append_assoc]
   exact (h5.pull 3).tail.pull 3
theorem GoodK.del {A : List SlotK} {t : HTK} (h : GoodK A t) (C : KidD → KidD → Int) (k : KidD) : GoodK A (delT C k t).1 := ⟨delT_rep h.rep, delT_hi h.hi, by have := delT_size C k t; have := h.size; omega⟩
/-- The block of a key that came in (of an int there is none). -/
def kboxK (kb : Nat) (k : KidD) : HProp := own kb (.cells #[.int .i64 k.up, .string k.name, .int .i64 k.node] 73 (0, 0))
theorem kboxCK {w : World} {kb : Nat} {fr : List HProp} {k : KidD} (hs : Sat w (kboxK kb k :: fr)) : w.cell? ⟨kb, 0, none⟩ = some (.int .i64 k.up) ∧ w.cell? ⟨kb, 1, none⟩ = some (.string k.name) ∧ w.cell? ⟨kb, 2, none⟩ = some (.int .i64 k.node) := ⟨Sat.cell hs 0, Sat.cell hs 1, Sat.cell hs 2⟩
theorem itemK_del {C : KidD → KidD → Int} (hC : CmpOkK C) (k : KidD) : ∀ (t : HTK) {w : World} {e m : Nat} {fr : List HProp} {p : Value} {gone : List Hd} {most : Int} {A : List SlotK} {F : List Int} (hs : Sat w (itemK t p :: editK e m gone :: mapK m most A F :: fr)) (hG : GoodK A t) (hH : HasT C k t) (hz : t.size < 500000) (hg : gone.length + t.size ≤ 4000000),
   Calls Tryz.prog 139 #[.pointer (some ⟨e, 0, none⟩), p, .agg #[.int .i64 k.up, .string k.name, .int .i64 k.node]] w fun x w' => ∃ q, x = .returned (.pointer q) ∧ Sat w' (itemK (delT C k t).1 (.pointer q) :: editK e m (gone ++ (delT C k t).2) :: mapK m most A F :: fr) ∧ Kp w w'
 | .leaf, w, e, m, fr, p, gone, most, A, F, hs, hG, hH, hz, hg => hH.elim
 | .node oh tk tv l r hi, w, e, m, fr, p, gone, most, A, F, hs, hG, hH, hz, hg => by
   obtain ⟨gl, gr, hp⟩ := hG.kids
   simp only [HT.size] at hz hg
   have ihl := fun (hc : C k tk < 0) (W : World) (p' : Value) (fr' : List HProp) (hW : Sat W (itemK l p' :: editK e m gone :: mapK m most A F :: fr')) => itemK_del hC k l hW gl (hH.1 hc) (by omega) (by omega)
   have ihr := fun (hc : 0 < C k tk) (W : World) (p' : Value) (fr' : List HProp) (hW : Sat W (itemK r p' :: editK e m gone :: mapK m most A F :: fr')) => itemK_del hC k r hW gr (hH.2 hc) (by omega) (by omega)
   have hbl := fun (W : World) (b : Nat) (x y : Value) (z : Int) (fr' : List HProp) (pl pr : Value) (hW : Sat W (own b (.cells (itCK (hdOf oh) tk tv x y z) 264 (0, 0)) :: itemK (delT C k l).1 pl :: itemK r pr :: editK e m (gone ++ (delT C k l).2) :: mapK m most A F :: fr')) => itemK_balance hW hp (by have := delT_gone C k l; rw [List.length_append]; omega) (gl.del C k) gr (by have := delT_size C k l; omega)
   have hbr := fun (W : World) (b : Nat) (x y : Value) (z : Int) (fr' : List HProp) (pl pr : Value) (hW : Sat W (own b (.cells (itCK (hdOf oh) tk tv x y z) 264 (0, 0)) :: itemK l pl :: itemK (delT C k r).1 pr :: editK e m (gone ++ (delT C k r).2) :: mapK m most A F :: fr')) => itemK_balance hW hp (by have := delT_gone C k r; rw [List.length_append]; omega) gl (gr.del C k) (by have := delT_size C k r; omega)
   have GL := Lib.hid gl
   have GR := Lib.hid gr
   have HP := Lib.hid hp
   have IHL := Lib.hid ihl
   have IHR := Lib.hid ihr
   have HBL := Lib.hid hbl
   have HBR := Lib.hid hbr
   have HG := Lib.hid hg
   have HZ := Lib.hid hz
   have HP1 := Lib.hid (show C k tk < 0 → delT C k (.node oh tk tv l r hi) = ((balT oh tk tv (delT C k l).1 r).1, (delT C k l).2 ++ (balT oh tk tv (delT C k l).1 r).2) from fun h => delT_lt C k tk tv oh l r hi h)
   have HP2 := Lib.hid (show 0 < C k tk → delT C k (.node oh tk tv l r hi) = ((balT oh tk tv l (delT C k r).1).1, (delT C k r).2 ++ (balT oh tk tv l (delT C k r).1).2) from fun h => delT_gt C k tk tv oh l r hi h)
   have HP3 := Lib.hid (show C k tk = 0 → l = .leaf → delT C k (.node oh tk tv l r hi) = (r, lv oh) from fun h e => by subst e; exact delT_leafL C k tk tv oh r hi h)
   have HP4 := Lib.hid (show C k tk = 0 → r = .leaf → delT C k (.node oh tk tv l r hi) = (l, lv oh) from fun h e => by subst e; exact delT_leafR C k tk tv oh l hi h)
   have HP5 := Lib.hid (fun (h : C k tk = 0) lh lk lw ll lr lhi rh rk rw' rl rr rhi (e1 : l = .node lh lk lw ll lr lhi) (e2 : r = .node rh rk rw' rl rr rhi) => delT_both C k tk tv oh lh rh lk rk lw rw' l r ll lr rl rr lhi rhi hi h e1 e2)
   have HC := Lib.hid (hC k tk)
   obtain ⟨b, rfl, -⟩ := itemK_E hs
   have hB := hs.alloc (.cells #[.int .i64 k.up, .string k.name, .int .i64 k.node] 73)
   have kB := (Kp.refl w).alloc (.cells #[.int .i64 k.up, .string k.name, .int .i64 k.node] 73)
   have hR := hG.rep
   clear hs gl gr ihl ihr hbl hbr hp hG hC hH hz hg
   obtain ⟨RES, hRES⟩ : ∃ RES, delT C k (.node oh tk tv l r hi) = RES := ⟨_, rfl⟩
   rw [hRES]
   rw [hRES] at HP1 HP2 HP3 HP4 HP5
   clear hRES
   obtain ⟨c, hc⟩ : ∃ c, C k tk = c := ⟨_, rfl⟩
   rw [hc] at HP1 HP2 HP3 HP4 HP5 HC IHL IHR
   clear hc
   go_enter Tryz.func139, Tryz.ntmps139
   go_upto_region 1 with (fail)
   generalize World.alloc _ _ = w1 at hB kB ⊢
   generalize w.heap.size = kb at hB ⊢
   change Sat _ (kboxK _ k :: _) at hB
   have hop := itemK_opened (hB.push 3) hR
   have HOP := Lib.hid hop
   clear hop hB hR
   go_wp2_with fail
   refine HOP.out.mono ?_
   rintro x1 w2 ⟨rfl, b', pl, pr, he, h2, k2⟩
   simp only [Value.pointer.injEq, Option.some.injEq, Addr.mk.injEq, and_true] at he
   subst he
   clear HOP
   obtain ⟨ql, rfl⟩ := itemK_form (h2.pull 1)
   obtain ⟨qr, rfl⟩ := itemK_form (h2.pull 2)
   have k2 := kB.trans k2
   have hcp := HC.out _ _ h2.drew
   obtain ⟨e0, m1⟩ := cmpCK (h2.pull 4 |>.pull 4)
   obtain ⟨c3, c4, c5, c6⟩ := allCK h2
   obtain ⟨d0, d1, d2⟩ := kboxCK (h2.pull 5)
   have hbl := h2.lt
   go_wp2_with fail
   go_region_held3 (fun w' => (w'.cell? ⟨e, 0, none⟩ = some (.pointer (some ⟨m, 0, none⟩)) ∧ w'.cell? ⟨m, 1, none⟩ = some (.func (.func 61) #[] #[]) ∧ (w'.cell? ⟨b, 3, none⟩ = some (.int .i64 tk.up) ∧ w'.cell? ⟨b, 4, none⟩ = some (.string tk.name) ∧ w'.cell? ⟨b, 5, none⟩ = some (.int .i64 tk.node) ∧ w'.cell? ⟨b, 6, none⟩ = some (.bool tv))) ∧ (w'.cell? ⟨kb, 0, none⟩ = some (.int .i64 k.up) ∧ w'.cell? ⟨kb, 1, none⟩ = some (.string k.name) ∧ w'.cell? ⟨kb, 2, none⟩ = some (.int .i64 k.node))) (first | go_keep | exact ⟨⟨e0, m1, ⟨c3, c4, c5, c6⟩⟩, ⟨d0, d1, d2⟩⟩ | exact ⟨⟨(cmpCK (h3.pull 4 |>.pull 4)).1, (cmpCK (h3.pull 4 |>.pull 4)).2, allCK h3⟩, kboxCK (h3.pull 5)⟩) ((go_at_call 61; (with_reducible refine hcp.mono ?_); rintro x1 w3 ⟨rfl, h3, k3⟩))
   have k3 := (k2.drew.trans k3)
   clear hcp e0 m1 c3 c4 c5 c6 hbl h2
   clear d0 d1 d2
   by_cases hc1 : c < 0
   · have hp1 := IHL.out hc1 _ _ _ ((h3.push 4).swap.push 4).drew
     have hp2 := fun (W : World) (q : Option Addr) (hW : Sat W (itemK (delT C k l).1 (.pointer q) :: editK e m (gone ++ (delT C k l).2) :: mapK m most A F :: own b (.cells (itCK (hdOf oh) tk tv (.pointer ql) (.pointer qr) hi) 264 (0, 0)) :: itemK r (.pointer qr) :: kboxK kb k :: fr)) => HBL.out _ _ _ _ _ _ _ _ (((hW.pull 4).swap).pull 4)
     have HQ5 := Lib.hid hp2
     have HRES := Lib.hid (HP1.out hc1)
     obtain ⟨c7, c8⟩ := linkCK h3
     obtain ⟨d0, d1, d2⟩ := kboxCK (h3.pull 5)
     have hbl := h3.lt
     clear hp2 h3 HP3 HP4 HP5
     go_wp2_with fail
     go_region_held3 (fun w' => (w'.cell? ⟨b, 7, none⟩ = some (.pointer ql) ∧ w'.cell? ⟨b, 8, none⟩ = some (.pointer qr)) ∧ (w'.cell? ⟨kb, 0, none⟩ = some (.int .i64 k.up) ∧ w'.cell? ⟨kb, 1, none⟩ = some (.string k.name) ∧ w'.cell? ⟨kb, 2, none⟩ = some (.int .i64 k.node))) (first | go_keep | exact ⟨⟨c7, c8⟩, ⟨d0, d1, d2⟩⟩ | exact ⟨linkCK (h5.pull 3), kboxCK (h5.pull 4)⟩ | exact ⟨linkCK (h4.pull 3), kboxCK (h4.pull 5)⟩) ((first | (go_at_call 139; (with_reducible refine hp1.mono ?_); rintro x2 w4 ⟨q1, rfl, h4, k4⟩; have hp3 := HQ5.out _ _ h4) | (go_at_call 164; (with_reducible refine hp3.mono ?_); rintro x3 w5 ⟨q2, rfl, h5, k5⟩)))
     go_wp2_with fail
     go_ret
     refine ⟨q2, rfl, ?_, (k3.drew.trans k4).trans k5⟩
     rw [HRES.out]
     have h6 := ((h5.pull 3).tail.pull 3).tail
     rw [List.append_assoc] at h6
     exact h6
   by_cases hc2 : 0 < c
   · have hp1 := IHR.out hc2 _ _ _ ((h3.push 4).push 4).drew
     have hp2 := fun (W : World) (q : Option Addr) (hW : Sat W (itemK (delT C k r).1 (.pointer q) :: editK e m (gone ++ (delT C k r).2) :: mapK m most A F :: own b (.cells (itCK (hdOf oh) tk tv (.pointer ql) (.pointer qr) hi) 264 (0, 0)) :: itemK l (.pointer ql) :: kboxK kb k :: fr)) => HBR.out _ _ _ _ _ _ _ _ (((hW.pull 4)).pull 4)
     have HQ5 := Lib.hid hp2
     have HRES := Lib.hid (HP2.out hc2)
     obtain ⟨c7, c8⟩ := linkCK h3
     obtain ⟨d0, d1, d2⟩ := kboxCK (h3.pull 5)
     have hbl := h3.lt
     clear hp2 h3 HP3 HP4 HP5
     go_wp2_with fail
     go_region_held3 (fun w' => (w'.cell? ⟨b, 7, none⟩ = some (.pointer ql) ∧ w'.cell? ⟨b, 8, none⟩ = some (.pointer qr)) ∧ (w'.cell? ⟨kb, 0, none⟩ = some (.int .i64 k.up) ∧ w'.cell? ⟨kb, 1, none⟩ = some (.string k.name) ∧ w'.cell? ⟨kb, 2, none⟩ = some (.int .i64 k.node))) (first | go_keep | exact ⟨⟨c7, c8⟩, ⟨d0, d1, d2⟩⟩ | exact ⟨linkCK (h5.pull 3), kboxCK (h5.pull 4)⟩ | exact ⟨linkCK (h4.pull 3), kboxCK (h4.pull 5)⟩) ((first | (go_at_call 139; (with_reducible refine hp1.mono ?_); rintro x2 w4 ⟨q1, rfl, h4, k4⟩; have hp3 := HQ5.out _ _ h4) | (go_at_call 164; (with_reducible refine hp3.mono ?_); rintro x3 w5 ⟨q2, rfl, h5, k5⟩)))
     go_wp2_with fail
     go_ret
     refine ⟨q2, rfl, ?_, (k3.drew.trans k4).trans k5⟩
     rw [HRES.out]
     have h6 := ((h5.pull 3).tail.pull 3).tail
     rw [List.append_assoc] at h6
     exact h6
   · have hc3 : c = 0 := by omega
     have hlv := itemK_leave (h3.pull 3).swap HP.out (by have := HG.out; omega)
     have HLV := Lib.hid hlv
     have HX3 := Lib.hid (HP3.out hc3)
     have HX4 := Lib.hid (HP4.out hc3)
     have HX5 := Lib.hid (HP5.out hc3)
     clear HP3 HP4 HP5
     subst hc3
     clear hlv h3 hc1 hc2 HBL HBR IHL IHR HP1 HP2
     go_wp2_with fail
     refine HLV.out.mono ?_
     rintro x2 w4 ⟨rfl, h4, k4⟩
     have k4 := k3.trans k4
     clear HLV
     obtain ⟨c7, c8⟩ := linkCK h4
     cases l with
     | leaf =>
       obtain ⟨he, h5⟩ := itemK_leafE (h4.pull 2)
       simp only [Value.pointer.injEq] at he
       subst he
       have HRES := Lib.hid (HX3.out (by trivial))
       go_wp2_with fail
       go_ret
       refine ⟨qr, rfl, ?_, k4⟩
       rw [HRES.out]
       exact (h5.tail.swap.pull 3).tail
     | node lh lk lw ll lr lhi =>
       obtain ⟨bl, he, -⟩ := itemK_E (h4.pull 2)
       simp only [Value.pointer.injEq] at he
       subst he
       cases r with
       | leaf =>
         obtain ⟨he, h5⟩ := itemK_leafE (h4.pull 3)
         simp only [Value.pointer.injEq] at he
         subst he
         have HRES := Lib.hid (HX4.out (by trivial))
         go_wp2_with fail
         go_ret
         refine ⟨_, rfl, ?_, k4⟩
         rw [HRES.out]
         exact (h5.tail.swap.pull 3).tail
       | node rh rk rw' rl rr rhi =>
         obtain ⟨br, he, -⟩ := itemK_E (h4.pull 3)
         simp only [Value.pointer.injEq] at he
         subst he
         have HRES := Lib.hid (HX5.out _ _ _ _ _ _ _ _ _ _ _ _ (by first | rfl | trivial) (by first | rfl | trivial))
         have hz := HZ.out
         have hg := HG.out
         have hvl := lv_len oh
         simp only [HT.size] at hz hg
         have hls := itemK_least rl ((h4.push 4).swap.push 4).swap GR.out (by omega) (by rw [List.length_append]; omega)
         have hba := fun (W : World) (b : Nat) (x y : Value) (z : Int) (fr' : List HProp) (pl pr : Value) (hW : Sat W (own b (.cells (itCK (hdOf (leastT rh rk rw' rr rl).1.1) (leastT rh rk rw' rr rl).1.2.1 (leastT rh rk rw' rr rl).1.2.2 x y z) 264 (0, 0)) :: itemK (.node lh lk lw ll lr lhi) pl :: itemK (leastT rh rk rw' rr rl).2.1 pr :: editK e m ((gone ++ lv oh) ++ (leastT rh rk rw' rr rl).2.2) :: mapK m most A F :: fr')) => itemK_balance hW (GoodK.least GR.out).2 (by have := leastT_gone rl rh rk rw' rr; rw [List.length_append, List.length_append]; omega) GL.out (GoodK.least GR.out).1 (by rw [leastT_size]; simp only [HT.size]; omega)
         have HBA := Lib.hid hba
         clear hz hg hvl hba HX3 HX4 HX5 HG HZ GL GR h4 HP HC
         generalize leastT rh rk rw' rr rl = L at hls HBA HRES
         go_wp2_with fail
         refine hls.mono ?_
         rintro x3 w5 ⟨bf, x4, x5, z, q, rfl, h5, k5⟩
         clear hls c7 c8
         obtain ⟨c7, c8⟩ := linkCK (h5.pull 4)
         have hb := HBA.out _ _ _ _ _ _ _ _ (h5.pull 5).swap
         clear HBA h5
         go_wp2_with fail
         refine hb.mono ?_
         rintro x6 w6 ⟨q6, rfl, h6, k6⟩
         go_wp2_with fail
         go_ret
         refine ⟨q6, rfl, ?_, (k4.trans k5).trans k6⟩
         rw [HRES.out]
         have h7 := (((h6.pull 3).tail.pull 3).tail.pull 3).tail
         rw [List.append_assoc, List.append_assoc] at h7
         exact h7
/-- The handle of an item that an arena has, with the item as it was. -/
theorem itemK_hd {w : World} {fr : List HProp} {p : Value} {h : Hd} {k : KidD} {v : Bool} {l r : HTK} {hi : Int} (hs : Sat w (itemK (.node (some h) k v l r hi) p :: fr)) :
   ∃ b : Nat, p = .pointer (some ⟨b, 0, none⟩) ∧ w.cell? ⟨b, 0, none⟩ = some (.int .i64 h.s) ∧ w.cell? ⟨b, 1, none⟩ = some (.int .i64 h.g) := by
 obtain ⟨b, rfl, ⟨hd, e, h1⟩ | ⟨pl, pr, h1⟩⟩ := itemK_E hs
 · cases e
   exact ⟨b, rfl, h1.cell 0, h1.cell 1⟩
 · exact ⟨b, rfl, h1.cell 0, h1.cell 1⟩
theorem itemK_fresh : ∀ (t : HTK) {w : World} {e : Nat} {fr : List HProp} {p : Value} {A : List SlotK} (hs : Sat w (itemK t p :: fr)) (hR : RepF A t) (hz : t.size ≤ 1000000),
   Calls Tryz.prog 160 #[.pointer (some ⟨e, 0, none⟩), p] w fun x w' => x = .returned (.int .i64 (freshT t : Nat)) ∧ Sat w' (itemK t p :: fr) ∧ Kp w w'
 | .leaf, w, e, fr, p, A, hs, hR, hz => by
   obtain ⟨rfl, h0⟩ := itemK_leafE hs
   go_enter Tryz.func160, Tryz.ntmps160
   go_wp2_with fail
   go_ret
   exact ⟨rfl, hs, Kp.refl w⟩
 | .node (some h) k v l r hi, w, e, fr, p, A, hs, hR, hz => by
   obtain ⟨b, rfl, b0, b1⟩ := itemK_hd hs
   have hs1 := hR.pos
   have hne : (h.s != 0) = true := by simp; omega
   have hne2 : (h.s == 0) = false := by rw [beq_eq_false_iff_ne]; omega
   clear hR hs1
   go_enter Tryz.func160, Tryz.ntmps160
   go_wp2_with fail
   go_ret
   exact ⟨rfl, hs, Kp.refl w⟩
 | .node none k v l r hi, w, e, fr, p, A, hs, hR, hz => by
   obtain ⟨b, rfl, ⟨hd, e, h1⟩ | ⟨pl, pr, h1⟩⟩ := itemK_E hs
   · cases e
   obtain ⟨ql, rfl⟩ := itemK_form (h1.pull 1)
   obtain ⟨qr, rfl⟩ := itemK_form (h1.pull 2)
   simp only [HT.size] at hz
   have ihl := itemK_fresh l (e := e) (h1.pull 1).drew hR.1 (by omega)
   have ihr := fun (W : World) (fr' : List HProp) (hW : Sat W (itemK r (.pointer qr) :: fr')) => itemK_fresh r (e := e) hW hR.2 (by omega)
   have IHR := Lib.hid ihr
   have b0 := h1.cell 0
   have b1 := h1.cell 1
   simp [itCK, hdOf, Hd.nil] at b0 b1
   obtain ⟨c7, c8⟩ := linkCK h1
   have ha := freshT_size l
   have hb := freshT_size r
   simp only [freshT]
   generalize freshT l = a at ihl ha ⊢
   generalize freshT r = c at IHR ihr hb ⊢
   have hw1 : IntKind.i64.wrap (1 + (a : Int)) = 1 + (a : Int) := by rw [IntWalk.i64_in _ (by omega)]
   have hw2 : IntKind.i64.wrap (1 + (a : Int) + (c : Int)) = 1 + (a : Int) + (c : Int) := by rw [IntWalk.i64_in _ (by omega)]
   rw [show ((1 + a + c : Nat) : Int) = 1 + (a : Int) + (c : Int) by push_cast; rfl]
   clear ihr hR hs ha hb hz
   go_enter Tryz.func160, Tryz.ntmps160
   go_wp2_with fail
   go_region_held3 (fun w' => w'.cell? ⟨b, 7, none⟩ = some (.pointer ql) ∧ w'.cell? ⟨b, 8, none⟩ = some (.pointer qr)) (first | go_keep | exact ⟨c7, c8⟩ | exact linkCK (h3.pull 2) | exact linkCK (h2.pull 1))
     ((first | (go_at_call 160; (with_reducible refine ihl.mono ?_); rintro x2 w2 ⟨rfl, h2, k2⟩; have ih3 := IHR.out _ _ (h2.pull 2)) | (go_at_call 160; (with_reducible refine ih3.mono ?_); rintro x3 w3 ⟨rfl, h3, k3⟩)))
   go_wp2_with fail
   go_ret
   exact ⟨rfl, itemK_I (oh := none) ((h3.push 2).swap), ((Kp.refl w).drew.trans k2).trans k3⟩
/-- A version that is made at block o: its root, what is new, and the slice of what is gone. -/
def outK (o : Nat) (rt : Hd) (made : List Hd) (vg : Value) : HProp :=
 ex fun mv => all [own o (.cells #[.int .i64 rt.s, .int .i64 rt.g, mv, vg] 200 (0, 0)), rowT fH mv 56 2 made]
theorem outK_I {w : World} {l : List HProp} {o : Nat} {rt : Hd} {made : List Hd} {vg mv : Value} (hs : Sat w (own o (.cells #[.int .i64 rt.s, .int .i64 rt.g, mv, vg] 200 (0, 0)) :: rowT fH mv 56 2 made :: l)) : Sat w (outK o rt made vg :: l) := Sat.exI mv (Sat.allI hs)
theorem outK_E {w : World} {l : List HProp} {o : Nat} {rt : Hd} {made : List Hd} {vg : Value} (hs : Sat w (outK o rt made vg :: l)) :
   ∃ mv, Sat w (own o (.cells #[.int .i64 rt.s, .int .i64 rt.g, mv, vg] 200 (0, 0)) :: rowT fH mv 56 2 made :: l) := by
 obtain ⟨v, h⟩ := hs.exE
 exact ⟨v, h.allE⟩
theorem itemK_store_leaf {w : World} {e o : Nat} {fr : List HProp} {p : Value} (hs : Sat w (itemK .leaf p :: fr)) :
   Calls Tryz.prog 162 #[.pointer (some ⟨e, 0, none⟩), p, .pointer (some ⟨o, 0, none⟩)] w fun x w' => x = .returned (.agg #[.int .i64 0, .int .i64 0]) ∧ Sat w' fr ∧ Kp w w' := by
 obtain ⟨rfl, h0⟩ := itemK_leafE hs
 have hB := h0.alloc (.cells #[.int .i64 0, .int .i64 0] 56)
 have kB := (Kp.refl w).alloc (.cells #[.int .i64 0, .int .i64 0] 56)
 clear hs h0
 go_enter Tryz.func162, Tryz.ntmps162
 go_upto_region 1 with (fail)
 generalize World.alloc _ _ = w1 at hB kB ⊢
 generalize w.heap.size = B at hB ⊢
 have b0 := (hB).cell 0
 have b1 := (hB).cell 1
 have bf0 := (hB).free 0
 have bf1 := (hB).free 1
 simp at b0 b1
 have h2 := (hB.set 0 (.int .i64 0)).set 1 (.int .i64 0)
 have k2 := (kB.setCell ⟨B, 0, none⟩ (.int .i64 0)).setCell ⟨B, 1, none⟩ (.int .i64 0)
 go_wp2_with fail
 exact bodyPost_ret (v := .agg #[.int .i64 0, .int .i64 0]) (by simp [results, Tryz.results162, go_sem, b0, b1, bf0, bf1]) rfl ⟨rfl, h2.tail, k2⟩
theorem itemK_store_old {w : World} {e o : Nat} {fr : List HProp} {p : Value} {h : Hd} {k : KidD} {v : Bool} {l r : HTK} {hi : Int} (hs : Sat w (itemK (.node (some h) k v l r hi) p :: fr)) (hp : 1 ≤ h.s) :
   Calls Tryz.prog 162 #[.pointer (some ⟨e, 0, none⟩), p, .pointer (some ⟨o, 0, none⟩)] w fun x w' => x = .returned (.agg #[.int .i64 h.s, .int .i64 h.g]) ∧ Sat w' fr ∧ Kp w w' := by
 have hB := hs.alloc (.cells #[.int .i64 0, .int .i64 0] 56)
 have kB := (Kp.refl w).alloc (.cells #[.int .i64 0, .int .i64 0] 56)
 obtain ⟨c, rfl, c0, c1⟩ := itemK_hd (hB.pull 1)
 have hne : (h.s != 0) = true := by simp; omega
 have hne2 : (h.s == 0) = false := by rw [beq_eq_false_iff_ne]; omega
 clear hs hp
 go_enter Tryz.func162, Tryz.ntmps162
 go_upto_region 1 with (fail)
 generalize World.alloc _ _ = w1 at hB kB c0 c1 ⊢
 generalize w.heap.size = B at hB ⊢
 have b0 := (hB).cell 0
 have b1 := (hB).cell 1
 have bf0 := (hB).free 0
 have bf1 := (hB).free 1
 simp at b0 b1
 have h2 := (hB.set 0 (.int .i64 h.s)).set 1 (.int .i64 h.g)
 have k2 := (kB.setCell ⟨B, 0, none⟩ (.int .i64 h.s)).setCell ⟨B, 1, none⟩ (.int .i64 h.g)
 go_wp2_with fail
 exact bodyPost_ret (v := .agg #[.int .i64 h.s, .int .i64 h.g]) (by simp [results, Tryz.results162, go_sem, b0, b1, bf0, bf1]) rfl ⟨rfl, h2.tail.tail, k2⟩
end Go.Proofs.YtddglbjhhnipgaaGreatDoor

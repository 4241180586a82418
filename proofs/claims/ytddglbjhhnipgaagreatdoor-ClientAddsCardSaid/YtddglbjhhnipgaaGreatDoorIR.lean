import Derived.Test.YtddglbjhhnipgaaGreatDoorGN
import Derived.Test.YtddglbjhhnipgaaGreatDoorGL
import Derived.Test.YtddglbjhhnipgaaGreatDoorGP
namespace Go.Proofs.YtddglbjhhnipgaaGreatDoor
open Go Go.RowKit
set_option linter.unusedVariables false
set_option linter.unusedSimpArgs false
set_option maxRecDepth 100000
set_option maxHeartbeats 8000000
/-! ### changes from no tree to one, with no program in sight -/
structure ChgI (f : Int → Option Loc) (last : Int) (ks : List KidD) : Prop where
 mem : ∀ k ∈ ks, f k.node = some ⟨k.up, k.name⟩ ∧ k.node ≤ last
 all : ∀ n l, f n = some l → n ≤ last → (⟨l.up, l.name, n⟩ : KidD) ∈ ks
 nodup : (ks.map KidD.node).Nodup
/-- The least node behind the last one, so far. -/
def LeastN (os : List OpD) (last : Int) (i : Nat) (next : Int) : Prop :=
 (next = -1 ∧ ∀ (j : Nat) (o : OpD), j < i → os[j]? = some o → o.node ≤ last) ∨
 (0 ≤ next ∧ last < next ∧ (∃ o ∈ os, o.node = next) ∧ ∀ (j : Nat) (o : OpD), j < i → os[j]? = some o → last < o.node → next ≤ o.node)
theorem chg_start {os : List OpD} {f : Int → Option Loc} (h : Grown os f) : ChgI f (-1) [] :=
 ⟨fun k hk => (by cases hk), fun n l hn h1 => by have := (h.dom n l hn).1; omega, List.nodup_nil⟩
theorem least_start (os : List OpD) (last : Int) : LeastN os last 0 (-1) := .inl ⟨rfl, fun j o hj => by omega⟩
theorem least_skip {os : List OpD} {last next : Int} {i : Nat} {o : OpD} (h : LeastN os last i next) (ho : os[i]? = some o) (hn : ¬ (last < o.node ∧ (next < 0 ∨ o.node < next))) : LeastN os last (i + 1) next := by
 rcases h with ⟨h1, h2⟩ | ⟨h0, h1, h2, h3⟩
 · refine .inl ⟨h1, fun j o' hj ho' => ?_⟩
   by_cases e : j = i
   · subst e; rw [ho] at ho'; cases ho'; omega
   · exact h2 j o' (by omega) ho'
 · refine .inr ⟨h0, h1, h2, fun j o' hj ho' hl => ?_⟩
   by_cases e : j = i
   · subst e; rw [ho] at ho'; cases ho'; omega
   · exact h3 j o' (by omega) ho' hl
theorem least_take {os : List OpD} {last next : Int} {i : Nat} {o : OpD} (h : LeastN os last i next) (ho : os[i]? = some o) (h0 : 0 ≤ o.node) (h1 : last < o.node) (h2 : next < 0 ∨ o.node < next) : LeastN os last (i + 1) o.node := by
 refine .inr ⟨h0, h1, ⟨o, List.mem_of_getElem? ho, rfl⟩, fun j o' hj ho' hl => ?_⟩
 by_cases e : j = i
 · subst e; rw [ho] at ho'; cases ho'; omega
 · rcases h with ⟨g1, g2⟩ | ⟨g0, g1, g2, g3⟩
   · have := g2 j o' (by omega) ho'; omega
   · have := g3 j o' (by omega) ho' hl; omega
theorem chg_end {os : List OpD} {f : Int → Option Loc} (h : Grown os f) {last : Int} {ks : List KidD} (hc : ChgI f last ks) (hl : LeastN os last os.length (-1)) : EnumK f ks := by
 refine ⟨fun k hk => (hc.mem k hk).1, hc.nodup, fun n l hn => ?_⟩
 obtain ⟨h1, o, ho, rfl⟩ := h.dom n l hn
 rcases hl with ⟨_, h2⟩ | ⟨h0, _⟩
 · obtain ⟨j, hj⟩ := List.getElem?_of_mem ho
   exact hc.all _ l hn (h2 j o (List.getElem?_eq_some_iff.1 hj).1 hj)
 · omega
theorem chg_between {os : List OpD} {f : Int → Option Loc} (h : Grown os f) {last next : Int} (hl : LeastN os last os.length next) (h0 : 0 ≤ next) {n : Int} {l : Loc} (hn : f n = some l) (h1 : last < n) (h2 : n ≤ next) : n = next := by
 obtain ⟨_, o, ho, rfl⟩ := h.dom n l hn
 obtain ⟨j, hj⟩ := List.getElem?_of_mem ho
 rcases hl with ⟨g1, _⟩ | ⟨_, _, _, h4⟩
 · omega
 · have := h4 j o (List.getElem?_eq_some_iff.1 hj).1 hj h1; omega
theorem chg_none {os : List OpD} {f : Int → Option Loc} (h : Grown os f) {last next : Int} {ks : List KidD} (hc : ChgI f last ks) (hl : LeastN os last os.length next) (h0 : 0 ≤ next) (hn : f next = none) : ChgI f next ks := by
 have hlt : last < next := by rcases hl with ⟨g1, _⟩ | ⟨_, g, _⟩ <;> omega
 refine ⟨fun k hk => ⟨(hc.mem k hk).1, by have := (hc.mem k hk).2; omega⟩, fun n l hf h1 => ?_, hc.nodup⟩
 by_cases e : n ≤ last
 · exact hc.all n l hf e
 · obtain rfl := chg_between h hl h0 hf (by omega) h1
   rw [hn] at hf; cases hf
theorem chg_some {os : List OpD} {f : Int → Option Loc} (h : Grown os f) {last next : Int} {ks : List KidD} {l : Loc} (hc : ChgI f last ks) (hl : LeastN os last os.length next) (h0 : 0 ≤ next) (hn : f next = some l) : ChgI f next (ks ++ [⟨l.up, l.name, next⟩]) := by
 have hlt : last < next := by rcases hl with ⟨g1, _⟩ | ⟨_, g, _⟩ <;> omega
 refine ⟨fun k hk => ?_, fun n l' hf h1 => ?_, ?_⟩
 · rcases List.mem_append.1 hk with hk | hk
   · exact ⟨(hc.mem k hk).1, by have := (hc.mem k hk).2; omega⟩
   · obtain rfl := List.mem_singleton.1 hk
     exact ⟨hn, Int.le_refl _⟩
 · by_cases e : n ≤ last
   · exact List.mem_append_left _ (hc.all n l' hf e)
   · obtain rfl := chg_between h hl h0 hf (by omega) h1
     rw [hn] at hf; cases hf
     simp
 · rw [List.map_append, List.nodup_append]
   refine ⟨hc.nodup, by simp, fun x hx y hy => ?_⟩
   obtain ⟨k, hk, rfl⟩ := List.mem_map.1 hx
   have := (hc.mem k hk).2
   simp at hy
   omega
/-! ### the document's changes, from no tree to one -/
def fCh (k : KidD) : List Value := [.int .i64 k.node, .bool false, .int .i64 0, .string ⟨#[]⟩, .bool true, .int .i64 k.up, .string k.name]
theorem len_fCh (k : KidD) : (fCh k).length = 7 := rfl
theorem Tryz.infoChg : (Tryz.prog.info? 101).map (fun i => (i.zero, i.size, i.bytes)) = some (some (.agg #[.int .i64 0, .bool false, .int .i64 0, .string ⟨#[]⟩, .bool false, .int .i64 0, .string ⟨#[]⟩]), 7, 72) := by kernel_rfl
def leftN (os : List OpD) (last : Int) : Nat := (os.filter fun o => decide (last < o.node)).length
theorem leftN_lt {os : List OpD} {last next : Int} (h1 : last < next) (h2 : ∃ o ∈ os, o.node = next) : leftN os next < leftN os last := by
 obtain ⟨o, ho, rfl⟩ := h2
 unfold leftN
 induction os with
 | nil => cases ho
 | cons a os ih =>
   have hle : (os.filter fun z => decide (o.node < z.node)).length ≤ (os.filter fun z => decide (last < z.node)).length := by
     clear ih ho
     induction os with
     | nil => simp
     | cons b os ih =>
       simp only [List.filter_cons]
       by_cases e1 : o.node < b.node
       · have e2 : last < b.node := by omega
         simp [e1, e2, ih]
       · by_cases e2 : last < b.node <;> simp [e1, e2] <;> omega
   simp only [List.filter_cons]
   rcases List.mem_cons.1 ho with rfl | ho
   · have e1 : ¬ o.node < o.node := Int.lt_irrefl _
     simp [h1]
     omega
   · have := ih ho
     by_cases e1 : o.node < a.node
     · have e2 : last < a.node := by omega
       simp [e1, e2, this]
     · by_cases e2 : last < a.node <;> simp [e1, e2] <;> omega
theorem ChgI.len {f : Int → Option Loc} {L : List KidD} {last : Int} {ks : List KidD} (hE : EnumK f L) (h : ChgI f last ks) : ks.length ≤ L.length := by
 have := nodup_sub (m := L.map KidD.node) h.nodup (fun x hx => by
   obtain ⟨k, hk, rfl⟩ := List.mem_map.1 hx
   exact List.mem_map.2 ⟨_, hE.all _ _ (h.mem k hk).1, rfl⟩)
 simpa using this
theorem rowOfC {α : Type} {f : α → List Value} {w : World} {v : Value} {n : Nat} {e : TypeId} {size : Nat} {xs : List α} {l : List HProp} (hs : Sat w (rowT f v e size xs :: l)) (hn : xs.length = n) : Sat w (row v e size n (xs.flatMap f) :: l) := by
 unfold rowT at hs
 rw [hn] at hs
 exact hs
theorem ref_changes {w : World} {l : List HProp} {t0 t : Nat} {L : List KidD} {Ws : List (List KidD)} {f : Int → Option Loc} {ao : Option Addr} {n cap : Nat} {os : List OpD} (hs : Sat w (refP t0 [] [] :: refP t L Ws :: l)) (hrow : ∀ w', Sat w' l → ArgRow w' fO ao n cap os)
   (hG : Grown os f) (hE : EnumK f L) (hL : L.length ≤ 1000) (hn : n ≤ 100) (hpos : ∀ o ∈ os, 0 ≤ o.node) :
   Calls Tryz.prog 73 #[.pointer (some ⟨t0, 0, none⟩), .pointer (some ⟨t, 0, none⟩), .slice ao n cap] w fun e w' => ∃ v ks, e = .returned v ∧ EnumK f ks ∧ ks.length ≤ L.length ∧ Sat w' (rowT fCh v 101 7 ks :: refP t0 [] [] :: refP t L Ws :: l) ∧ Kp w w' := by
 obtain ⟨i1, hj, hy0, hy1, hy2⟩ := info_parts Tryz.infoChg
 have HR := Lib.hid hrow
 have HN := Lib.hid (hrow w hs.tail.tail).len
 have hn' : (n : Int) ≤ 100 := by omega
 have HG := Lib.hid hG
 have HE := Lib.hid hE
 have HL := Lib.hid hL
 have HP := Lib.hid hpos
 clear hrow hG hE hpos
 go_enter Tryz.func73, Tryz.ntmps73
 go_wp2_with fail
 go_loopw [7, 8] (fun ov lv wr => ∃ (ks : List KidD) (last : Int) (oo : Option Addr) (m c : Nat), ov = .slice oo m c ∧ lv = .int .i64 last ∧ Hid (ks.length = m) ∧ m ≤ 1000 ∧ Hid (ChgI f last ks) ∧ Sat wr (rowT fCh (.slice oo m c) 101 7 ks :: refP t0 [] [] :: refP t L Ws :: l) ∧ Kp w wr) (fun _ lv _ => leftN os (intOf lv))
 case atStart => exact ⟨[], -1, none, 0, 0, rfl, rfl, Lib.hid rfl, by omega, Lib.hid (chg_start HG.out), hs.tNil fCh _ 7, Kp.refl w⟩
 case round =>
   clear hs
   obtain ⟨ks, last, oo, m, c, rfl, rfl, HM, hm, HC, h2, k2⟩ := hrel
   go_wp2_with fail
   go_loopw [9, 10] (fun nv iv wx => ∃ (next : Int) (i : Nat), i ≤ n ∧ nv = .int .i64 next ∧ iv = .int .i64 i ∧ -1 ≤ next ∧ Hid (LeastN os last i next) ∧ wr = wx) (fun _ iv _ => n - (intOf iv).toNat)
   case atStart => exact ⟨-1, 0, by omega, rfl, rfl, by omega, Lib.hid (least_start os last), rfl⟩
   case round =>
     obtain ⟨next, i, hin, rfl, rfl, hnx, HLS, rfl⟩ := hrel
     by_cases hlt : i < n
     case neg =>
       obtain rfl : n = i := by omega
       have HLN : Hid (LeastN os last os.length next) := Lib.hid (by rw [HN.out]; exact HLS.out)
       clear HLS
       by_cases hn0 : next < 0
       · obtain rfl : next = -1 := by omega
         go_wp2_with fail
         exact bodyPost_ret (v := .slice oo m c) (by simp [results, Tryz.results73, go_sem]) rfl ⟨_, ks, rfl, chg_end HG.out HC.out HLN.out, HC.out.len HE.out, h2, k2⟩
       · have hn1 : (0 : Int) ≤ next := by omega
         have HLT := Lib.hid (show leftN os next < leftN os last from by
           rcases HLN.out with ⟨g1, _⟩ | ⟨_, g1, g2, _⟩
           · omega
           · exact leftN_lt g1 g2)
         have hsp := ref_spot (n := next) (f := fun _ => none) (h2.pull 1) enumk_nil (by simp)
         simp only [vL] at hsp
         clear h2
         go_wp2_with fail
         refine hsp.mono ?_
         rintro e w3 ⟨rfl, h3, k3⟩
         have hX := h3.alloc (.cells #[.bool false, .int .i64 0, .string ⟨#[]⟩] 98)
         have kX := (k2.trans k3).alloc (.cells #[.bool false, .int .i64 0, .string ⟨#[]⟩] 98)
         have hs2 := ref_spot (n := next) (hX.pull 3) HE.out HL.out
         clear hsp h3 k2 k3
         cases hf : f next with
         | none =>
           rw [hf] at hs2
           simp only [vL] at hs2
           have HC2 := Lib.hid (chg_none HG.out HC.out HLN.out hn1 hf)
           clear hX
           go_wp2_with fail
           refine hs2.mono ?_
           rintro e w4 ⟨rfl, h4, k4⟩
           have hY := h4.alloc (.cells #[.bool false, .int .i64 0, .string ⟨#[]⟩] 98)
           have kY := (kX.trans k4).alloc (.cells #[.bool false, .int .i64 0, .string ⟨#[]⟩] 98)
           clear hs2 h4 kX k4
           go_upto_region 14 with (fail)
           generalize World.alloc _ _ = w5 at hY kY ⊢
           generalize w4.heap.size = B at hY ⊢
           generalize w3.heap.size = A at hY ⊢
           have a0 := (hY.pull 2).cell 0
           have a1 := (hY.pull 2).cell 1
           have a2 := (hY.pull 2).cell 2
           simp at a0 a1 a2
           have b0 := (hY).cell 0
           have b1 := (hY).cell 1
           have b2 := (hY).cell 2
           simp at b0 b1 b2
           go_wp2_with fail
           go_roundw
           case rel => exact ⟨ks, next, oo, m, c, rfl, rfl, HM, hm, HC2, (((((hY.tail.pull 1).tail).pull 1).pull 2)), kY⟩
           case measure => simp [intOf]; exact HLT.out
         | some lo =>
           rw [hf] at hs2
           simp only [vL] at hs2
           have HC2 := Lib.hid (chg_some HG.out HC.out HLN.out hn1 hf)
           clear hX
           go_wp2_with fail
           refine hs2.mono ?_
           rintro e w4 ⟨rfl, h4, k4⟩
           have hY := h4.alloc (.cells #[.bool true, .int .i64 lo.up, .string lo.name] 98)
           have kY := (kX.trans k4).alloc (.cells #[.bool true, .int .i64 lo.up, .string lo.name] 98)
           clear hs2 h4 kX k4
           go_upto_region 14 with (fail)
           generalize World.alloc _ _ = w5 at hY kY ⊢
           generalize w4.heap.size = B at hY ⊢
           generalize w3.heap.size = A at hY ⊢
           have a0 := (hY.pull 2).cell 0
           have a1 := (hY.pull 2).cell 1
           have a2 := (hY.pull 2).cell 2
           simp at a0 a1 a2
           have b0 := (hY).cell 0
           have b1 := (hY).cell 1
           have b2 := (hY).cell 2
           simp at b0 b1 b2
           have hZ := hY.alloc (.cells #[.int .i64 next, .bool false, .int .i64 0, .string ⟨#[]⟩, .bool true, .int .i64 lo.up, .string lo.name] 101)
           have kZ := kY.alloc (.cells #[.int .i64 next, .bool false, .int .i64 0, .string ⟨#[]⟩, .bool true, .int .i64 lo.up, .string lo.name] 101)
           have hrw := rowOfC (hZ.pull 5) HM.out
           clear hZ hY
           go_wp2_with (at_builtin; refine wpList_append_lit rfl (.tmp 50) (.tmp 55) 146 rfl 101 i1 _ 7 72 Tryz.underlying146 hj hy0 hy1 hy2 rfl (by decide) _ _ _ _ _ _ _ rfl hrw 1 1 rfl rfl rfl ?c3 ?c4 ?c5)
           case c3 => unfold maxLen; omega
           case c4 => omega
           case c5 =>
             intro v' w6 hs5 hk5
             rw [show m + 1 = ks.length + 1 by rw [HM.out]] at hs5
             have h7 := Sat.tSnoc (f := fCh) (x := ⟨lo.up, lo.name, next⟩) hs5 rfl
             have HML := Lib.hid (show (ks ++ [(⟨lo.up, lo.name, next⟩ : KidD)]).length = m + 1 by rw [List.length_append, HM.out]; rfl)
             have hm2 := HC2.out.len HE.out
             rw [HML.out] at hm2
             have hm3 := HL.out
             obtain ⟨o2, c2, rfl⟩ := h7.tLen
             rw [HML.out] at h7 ⊢
             clear hs5
             go_wp2_with fail
             go_roundw
             case rel => exact ⟨_, next, o2, m + 1, c2, rfl, rfl, HML, by omega, HC2, ((((((h7.pull 1).tail.pull 1).tail.pull 2).tail).pull 2).pull 1), (kZ.trans hk5)⟩
             case measure => simp [intOf]; exact HLT.out
     obtain ⟨o, ho⟩ : ∃ o, os[i]? = some o := ⟨_, List.getElem?_eq_getElem (by rw [HN.out]; exact hlt)⟩
     have har := HR.out _ h2.tail.tail.tail
     obtain ⟨b, off, rfl⟩ := har.some hlt
     have x2 := (op_at har ho).2.2.1
     have i0' : (0 : Int) ≤ (i : Int) := by omega
     have i1' : (i : Int) < (n : Int) := by omega
     have hp := HP.out o (List.mem_of_getElem? ho)
     by_cases hq : last < o.node ∧ (next < 0 ∨ o.node < next)
     · have HLT := Lib.hid (least_take HLS.out ho hp hq.1 hq.2)
       have t1 : decide (last < o.node) = true := by rw [decide_eq_true_iff]; exact hq.1
       have t1' : last < o.node := hq.1
       clear ho har HLS
       by_cases hn0 : next < 0
       · clear hq
         go_wp2_with fail
         go_roundw
         case rel => exact ⟨o.node, i + 1, by omega, rfl, by go_num, by omega, HLT, trivial⟩
         case measure => simp [intOf]; omega
       · have hn1 : o.node < next := by omega
         clear hq
         go_wp2_with fail
         go_roundw
         case rel => exact ⟨o.node, i + 1, by omega, rfl, by go_num, by omega, HLT, trivial⟩
         case measure => simp [intOf]; omega
     · have HLT := Lib.hid (least_skip HLS.out ho hq)
       clear ho har HLS
       by_cases t1 : last < o.node
       · have hn0 : ¬ next < 0 := fun h => hq ⟨t1, .inl h⟩
         have hn1 : ¬ o.node < next := fun h => hq ⟨t1, .inr h⟩
         clear hq
         go_wp2_with fail
         go_roundw
         case rel => exact ⟨next, i + 1, by omega, rfl, by go_num, by omega, HLT, trivial⟩
         case measure => simp [intOf]; omega
       · clear hq
         go_wp2_with fail
         go_roundw
         case rel => exact ⟨next, i + 1, by omega, rfl, by go_num, by omega, HLT, trivial⟩
         case measure => simp [intOf]; omega
end Go.Proofs.YtddglbjhhnipgaaGreatDoor

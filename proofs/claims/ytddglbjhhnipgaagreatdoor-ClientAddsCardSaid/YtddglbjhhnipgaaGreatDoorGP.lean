import Derived.Test.YtddglbjhhnipgaaGreatDoorGO
import Derived.Test.YtddglbjhhnipgaaGreatDoorGL
import Derived.Test.YtddglbjhhnipgaaGreatDoorGK
namespace Go.Proofs.YtddglbjhhnipgaaGreatDoor
open Go Go.RowKit
set_option linter.unusedVariables false
set_option linter.unusedSimpArgs false
set_option maxRecDepth 100000
set_option maxHeartbeats 8000000
/-! ### TreePlays, with no program in sight: both trees are one -/
/-- What was done, from the last on; what the document's tree was, from the last on. -/
def BothR : List ChD → List (List KidD) → (Int → Option Loc) → List KidD → Prop
 | [], [], f, L => EnumK f L ∧ Acyc f ∧ L.length ≤ 0
 | c :: ds, L' :: Ws, f, L => EnumK f L ∧ Acyc f ∧ L.length ≤ ds.length + 1 ∧ BothR ds Ws (upd f c.node c.old) L'
 | _, _, _, _ => False
def Both (ds : List ChD) (Ws : List (List KidD)) (f : Int → Option Loc) (L : List KidD) : Prop := BothR ds.reverse Ws.reverse f L
theorem bothR_facts : ∀ {ds : List ChD} {Ws : List (List KidD)} {f : Int → Option Loc} {L : List KidD}, BothR ds Ws f L → EnumK f L ∧ Acyc f ∧ L.length ≤ ds.length ∧ Ws.length = ds.length
 | [], [], _, _, h => ⟨h.1, h.2.1, h.2.2, rfl⟩
 | c :: ds, L' :: Ws, _, _, h => ⟨h.1, h.2.1, h.2.2.1, by have := (bothR_facts h.2.2.2).2.2.2; simp [this]⟩
 | [], _ :: _, _, _, h => h.elim
 | _ :: _, [], _, _, h => h.elim
theorem both_facts {ds : List ChD} {Ws : List (List KidD)} {f : Int → Option Loc} {L : List KidD} (h : Both ds Ws f L) : EnumK f L ∧ Acyc f ∧ L.length ≤ ds.length ∧ Ws.length = ds.length := by
 have := bothR_facts h
 simpa using this
theorem both_start : Both [] [] (fun _ => none) [] := ⟨enumk_nil, acyc_empty, Nat.le_refl _⟩
theorem upd_back (f : Int → Option Loc) (o : OpD) (r : Bool) : upd (applied f o r) o.node (f o.node) = f := by
 cases r with
 | false => exact upd_self f o.node
 | true =>
   funext j
   by_cases e : j = o.node
   · subst e; rw [upd_same]
   · rw [upd_other e]
     exact upd_other e
theorem putL_len (L : List KidD) (o : OpD) (r : Bool) : (putL L o r).length ≤ L.length + 1 := by
 cases r with
 | false => exact Nat.le_succ _
 | true =>
   show ((L.filter fun k : KidD => k.node != o.node) ++ [(⟨o.up, o.name, o.node⟩ : KidD)]).length ≤ _
   rw [List.length_append]
   have := List.length_filter_le (fun k : KidD => k.node != o.node) L
   simp
   omega
theorem both_apply {ds : List ChD} {Ws : List (List KidD)} {f : Int → Option Loc} {L : List KidD} (h : Both ds Ws f L) (o : OpD) : Both (ds ++ [⟨o.node, f o.node, newLoc f o (can f o)⟩]) (Ws ++ [L]) (applied f o (can f o)) (putL L o (can f o)) := by
 obtain ⟨h1, h2, h3, h4⟩ := bothR_facts h
 unfold Both
 rw [List.reverse_append, List.reverse_append]
 refine ⟨enumk_put h1 o _, ?_, ?_, ?_⟩
 · cases hc : can f o with
   | false => exact h2
   | true => exact h2.put (can_iff.1 hc).2
 · have := putL_len L o (can f o)
   simp at h3 ⊢
   omega
 · show BothR ds.reverse Ws.reverse (upd (applied f o (can f o)) o.node (f o.node)) L
   rw [upd_back]
   exact h
theorem both_undo {ds : List ChD} {c : ChD} {Ws : List (List KidD)} {f : Int → Option Loc} {L : List KidD} (h : Both (ds ++ [c]) Ws f L) : ∃ Ws' L', Ws = Ws' ++ [L'] ∧ Both ds Ws' (upd f c.node c.old) L' := by
 unfold Both at h
 rw [List.reverse_append] at h
 cases hw : Ws.reverse with
 | nil => rw [hw] at h; exact h.elim
 | cons L' Wr =>
   rw [hw] at h
   refine ⟨Wr.reverse, L', ?_, ?_⟩
   · have := congrArg List.reverse hw
     rw [List.reverse_reverse] at this
     simpa using this
   · unfold Both
     rw [List.reverse_reverse]
     exact h.2.2.2
theorem both_none {Ws : List (List KidD)} {f : Int → Option Loc} {L : List KidD} (h : Both [] Ws f L) : Ws = [] := by
 unfold Both at h
 cases hw : Ws.reverse with
 | nil => simpa using hw
 | cons L' Wr => rw [hw] at h; exact h.elim
/-- The list as pairs. -/
def pairK (k : KidD) : Int × Loc := (k.node, ⟨k.up, k.name⟩)
theorem enum_of {f : Int → Option Loc} {L : List KidD} (h : EnumK f L) : Enum f (L.map pairK) := by
 refine ⟨fun k l hk => ?_, fun p hp => ?_, ?_⟩
 · exact List.mem_map.2 ⟨_, h.all k l hk, rfl⟩
 · obtain ⟨k, hk, rfl⟩ := List.mem_map.1 hp
   exact h.mem k hk
 · rw [List.map_map]
   exact h.nodup
theorem kids_of (p : Int × Loc → Bool) (L : List KidD) : kidsOf p (L.map pairK) = L.filter fun k => p (pairK k) := by
 induction L with
 | nil => rfl
 | cons k L ih =>
   unfold kidsOf at ih ⊢
   rw [List.map_cons, List.filter_cons, List.filter_cons]
   cases hp : p (pairK k) with
   | false => simpa using ih
   | true =>
     simp only [if_true, List.map_cons]
     rw [ih]
     rfl
theorem all_one {f : Int → Option Loc} {L : List KidD} {S : List (Int × Loc)} (h : EnumK f L) (hS : Enum f S) : isort klt (kidsOf (fun _ => true) S) = isort klt L := by
 rw [kids_same hS (enum_of h), kids_of]
 congr 1
 exact List.filter_eq_self.2 (fun _ _ => rfl)
theorem kids_one_n {f : Int → Option Loc} {L : List KidD} {S : List (Int × Loc)} (n : Int) (h : EnumK f L) (hS : Enum f S) : isort klt (kidsOf (fun p => p.2.up == n) S) = isort klt (L.filter fun k => k.up == n) := by
 rw [kids_same hS (enum_of h), kids_of]
 rfl
theorem enumk_reach {f : Int → Option Loc} {L : List KidD} (h : EnumK f L) : ∀ b k, Reach f b k → k ≤ L.length := fun b k hr => by
 have := reach_le hr (enum_of h)
 rwa [List.length_map] at this
theorem enumk_bnd {f : Int → Option Loc} {L : List KidD} (h : EnumK f L) (hL : L.length ≤ 1000) : Bnd f := fun S hm hn => by
 have h2 := nodup_sub (m := (L.map pairK).map Prod.fst) hn (fun x hx => by
   obtain ⟨p, hp, rfl⟩ := List.mem_map.1 hx
   exact List.mem_map.2 ⟨p, (enum_of h).all p.1 p.2 (hm p hp), rfl⟩)
 simp only [List.length_map] at h2
 omega
theorem ext_mid (s : ByteArray) (a b : Nat) : s.extract a b = mkB ((s.data.toList.drop a).take (b - a)) := by
 apply ba_ext
 rw [list_mkB, ByteArray.data_extract, Array.toList_extract, List.extract]
/-- How far the document's Split has come: 'from' on, nothing of it is split yet. -/
def SplitAt (s : ByteArray) (r : List UInt8) (done : List (List UInt8)) (a i : Nat) : Prop :=
 (∀ x ∈ done, nameOk (mkB x) = true) ∧ ((i ≤ s.size ∧ a ≤ i ∧ splitS r = done ++ splitS (s.data.toList.drop a) ∧ (47 : UInt8) ∉ (s.data.toList.drop a).take (i - a)) ∨ (i = s.size + 1 ∧ splitS r = done))
theorem split_at_more {s : ByteArray} {r : List UInt8} {done : List (List UInt8)} {a i : Nat} (h : SplitAt s r done a i) (hi : i < s.size) (hb : s[i] ≠ 47) : SplitAt s r done a (i + 1) := by
 obtain ⟨h0, ⟨h1, h2, h3, h4⟩ | ⟨h1, _⟩⟩ := h
 · refine ⟨h0, .inl ⟨hi, by omega, h3, ?_⟩⟩
   rw [show i + 1 - a = (i - a) + 1 by omega, List.take_add_one, List.getElem?_drop, show a + (i - a) = i by omega, byte_get s i hi]
   intro hm
   rcases List.mem_append.1 hm with hm | hm
   · exact h4 hm
   · simp at hm
     exact hb hm.symm
 · omega
theorem split_at_cut {s : ByteArray} {r : List UInt8} {done : List (List UInt8)} {a i : Nat} (h : SplitAt s r done a i) (hi : i < s.size) (hb : s[i] = 47) : ∃ rest, splitS r = done ++ ((s.data.toList.drop a).take (i - a) :: rest) ∧ (nameOk (mkB ((s.data.toList.drop a).take (i - a))) = true → SplitAt s r (done ++ [(s.data.toList.drop a).take (i - a)]) (i + 1) (i + 1)) := by
 obtain ⟨h0, ⟨h1, h2, h3, h4⟩ | ⟨h1, _⟩⟩ := h
 · have e : s.data.toList.drop a = (s.data.toList.drop a).take (i - a) ++ 47 :: s.data.toList.drop (i + 1) := by
     have e1 : s.data.toList.drop a = (s.data.toList.drop a).take (i - a) ++ (s.data.toList.drop a).drop (i - a) := (List.take_append_drop _ _).symm
     have e2 : (s.data.toList.drop a).drop (i - a) = 47 :: s.data.toList.drop (i + 1) := by
       rw [List.drop_drop, show a + (i - a) = i by omega]
       have hb2 := byte_get s i hi
       rw [hb] at hb2
       exact drop_cons' hb2
     rw [e2] at e1
     exact e1
   have e3 : splitS (s.data.toList.drop a) = (s.data.toList.drop a).take (i - a) :: splitS (s.data.toList.drop (i + 1)) := by
     conv => lhs; rw [e]
     exact splitS_cut h4
   refine ⟨splitS (s.data.toList.drop (i + 1)), by rw [h3, e3], fun hok => ⟨fun x hx => ?_, .inl ⟨hi, Nat.le_refl _, ?_, by simp⟩⟩⟩
   · rcases List.mem_append.1 hx with hx | hx
     · exact h0 x hx
     · obtain rfl := List.mem_singleton.1 hx
       exact hok
   · rw [h3, e3, List.append_assoc]
     rfl
 · omega
theorem split_at_last {s : ByteArray} {r : List UInt8} {done : List (List UInt8)} {a : Nat} (h : SplitAt s r done a s.size) : splitS r = done ++ [(s.data.toList.drop a).take (s.size - a)] ∧ (nameOk (mkB ((s.data.toList.drop a).take (s.size - a))) = true → SplitAt s r (done ++ [(s.data.toList.drop a).take (s.size - a)]) (s.size + 1) (s.size + 1)) := by
 obtain ⟨h0, ⟨h1, h2, h3, h4⟩ | ⟨h1, _⟩⟩ := h
 · have e : (s.data.toList.drop a).take (s.size - a) = s.data.toList.drop a := List.take_of_length_le (by rw [List.length_drop, list_size]; exact Nat.le_refl _)
   rw [e] at h4 ⊢
   rw [splitS_none h4] at h3
   refine ⟨h3, fun hok => ⟨fun x hx => ?_, .inr ⟨rfl, h3⟩⟩⟩
   rcases List.mem_append.1 hx with hx | hx
   · exact h0 x hx
   · obtain rfl := List.mem_singleton.1 hx
     exact hok
 · omega
theorem ref_split {w : World} {l : List HProp} (s : ByteArray) (hs : Sat w l) : Calls Tryz.prog 104 #[.string s] w (SplitPost w s l) := by
 obtain ⟨i0, hi, hz0, hz1, hz2⟩ := info_parts Tryz.infoStr
 by_cases hbig : 400 < s.size
 · have b0 : (400 : Int) < (s.size : Int) := by omega
   have hz : ((s.size : Int) == 0) = false := by rw [beq_eq_false_iff_ne]; omega
   have hp : pathL s = none := by unfold pathL; rw [if_pos hbig]
   have HP := Lib.hid hp
   clear hbig hp
   go_enter Tryz.func104, Tryz.ntmps104
   go_wp2_with fail
   go_ret2
   exact ⟨Kp.refl w, .inl ⟨HP.out, rfl, hs⟩⟩
 have b0 : ¬ (400 : Int) < (s.size : Int) := by omega
 by_cases hz0' : s.size = 0
 · have hz : ((s.size : Int) == 0) = true := by rw [beq_iff_eq]; omega
   have hp : pathL s = none := by
     unfold pathL
     rw [if_neg hbig]
     cases hl : s.data.toList with
     | nil => rfl
     | cons b r => have := list_size s; rw [hl] at this; simp at this; omega
   have HP := Lib.hid hp
   clear hbig hp hz0'
   go_enter Tryz.func104, Tryz.ntmps104
   go_wp2_with fail
   go_ret2
   exact ⟨Kp.refl w, .inl ⟨HP.out, rfl, hs⟩⟩
 have hz : ((s.size : Int) == 0) = false := by rw [beq_eq_false_iff_ne]; omega
 have hpos : (0 : Int) < (s.size : Int) := by omega
 have hpos' : 0 < s.size := by omega
 have hb0 := byte_get s 0 hpos'
 cases hs47 : ((s[0].toNat : Int) != 47) with
 | true =>
   have hp : pathL s = none := by
     unfold pathL
     rw [if_neg hbig]
     cases hl : s.data.toList with
     | nil => rfl
     | cons b r =>
       rw [hl] at hb0
       simp at hb0
       have : b ≠ 47 := fun e => by rw [← hb0, e] at hs47; revert hs47; decide
       simp [this]
   have HP := Lib.hid hp
   clear hbig hp hb0
   go_enter Tryz.func104, Tryz.ntmps104
   go_wp2_with fail
   go_ret2
   exact ⟨Kp.refl w, .inl ⟨HP.out, rfl, hs⟩⟩
 | false =>
   obtain ⟨r, hr⟩ : ∃ r, s.data.toList = 47 :: r := by
     cases hl : s.data.toList with
     | nil => have := list_size s; rw [hl] at this; simp at this; omega
     | cons b r =>
       rw [hl] at hb0
       simp at hb0
       rw [← hb0] at hs47
       refine ⟨r, ?_⟩
       congr 1
       have : (b.toNat : Int) = 47 := by simpa using hs47
       exact UInt8.toNat_inj.1 (by simp; omega)
   have hrl : s.size = r.length + 1 := by rw [← list_size, hr]; rfl
   cases hs1 : ((s.size : Int) == 1) with
   | true =>
     have hr0 : r = [] := List.eq_nil_of_length_eq_zero (by simp at hs1; omega)
     have hp : pathL s = some [] := by unfold pathL; rw [if_neg hbig, hr, hr0]; simp
     have HP := Lib.hid hp
     clear hbig hp hb0 hr hr0 hrl
     go_enter Tryz.func104, Tryz.ntmps104
     go_wp2_with fail
     go_ret2
     exact ⟨Kp.refl w, .inr ⟨_, [], HP.out, by simp, fun x hx => (by cases hx), rfl, hs.tNil fSt 9 1⟩⟩
   | false =>
     have hrne : r ≠ [] := fun e => by rw [e] at hrl; simp at hrl; rw [hrl] at hs1; simp at hs1
     have hp : pathL s = if ((splitS r).map mkB).all nameOk then some ((splitS r).map mkB) else none := by unfold pathL; rw [if_neg hbig, hr]; simp [hrne]
     have hnl : (splitS r).length ≤ 400 := by
       rw [splitS_len]
       have := count_le_size (mkB r)
       rw [list_mkB, mkB_size] at this
       omega
     have hsz : ∀ x ∈ splitS r, x.length ≤ 400 := fun x hx => by have := splitS_size hx; omega
     have h00 : SplitAt s r [] 1 1 := ⟨fun x hx => (by cases hx), .inl ⟨by omega, Nat.le_refl _, by rw [hr]; rfl, by simp⟩⟩
     have HP := Lib.hid hp
     have HNL := Lib.hid hnl
     have HSZ := Lib.hid hsz
     have H00 := Lib.hid h00
     have hz400 : (s.size : Int) ≤ 400 := by omega
     have h0 := hs.tNil fSt 9 1
     clear hbig hp hb0 hr hrl hrne hnl hsz h00 hs
     go_enter Tryz.func104, Tryz.ntmps104
     go_wp2_with fail
     go_loopw [4, 5, 6, 7] (fun ov av iv bv wr => ∃ (a i : Nat) (done : List (List UInt8)), i ≤ s.size + 1 ∧ av = .int .i64 a ∧ iv = .int .i64 i ∧ Hid (SplitAt s r done a i) ∧ done.length ≤ i ∧ Sat wr (rowT fSt ov 9 1 (done.map mkB) :: l) ∧ Kp w wr) (fun _ _ iv _ _ => s.size + 1 - (intOf iv).toNat)
     case atStart => exact ⟨1, 1, [], by omega, rfl, rfl, H00, by simp, h0, Kp.refl w⟩
     case round =>
       clear h0 H00
       obtain ⟨a, i, done, his, rfl, rfl, hI, hdl, h1, k1⟩ := hrel
       by_cases hlt : i ≤ s.size
       case neg =>
         obtain rfl : i = s.size + 1 := by omega
         have hlt' : ¬ ((s.size + 1 : Nat) : Int) ≤ (s.size : Int) := by omega
         have hdone : splitS r = done := by
           obtain ⟨_, ⟨h1, _⟩ | ⟨_, h⟩⟩ := hI.out
           · omega
           · exact h
         have hall : ((splitS r).map mkB).all nameOk = true := List.all_eq_true.2 fun x hx => by
           obtain ⟨y, hy, rfl⟩ := List.mem_map.1 hx
           exact hI.out.1 y (by rw [← hdone]; exact hy)
         have hp := HP.out
         rw [hall, if_pos rfl, hdone] at hp
         have HP2 := Lib.hid hp
         have HD := Lib.hid hdone
         obtain ⟨oao, ocap, ho⟩ := h1.tLen
         generalize (done.map mkB).length = dn at ho
         subst ho
         clear hp hall hdone hlt
         go_wp2_with fail
         go_ret2
         exact ⟨k1, .inr ⟨_, _, HP2.out, by rw [List.length_map, ← HD.out]; exact HNL.out, fun x hx => (by
           obtain ⟨y, hy, rfl⟩ := List.mem_map.1 hx
           rw [mkB_size]
           exact HSZ.out y (by rw [HD.out]; exact hy)), rfl, h1⟩⟩
       have hlt' : (i : Int) ≤ (s.size : Int) := by omega
       have i0' : (0 : Int) ≤ (i : Int) := by omega
       have iw : IntKind.i64.wrap ((i : Int) + 1) = (i : Int) + 1 := by rw [IntWalk.i64_in _ (by omega)]
       have hai : a ≤ i := by
         obtain ⟨_, ⟨_, h, _⟩ | ⟨h, _⟩⟩ := hI.out
         · exact h
         · omega
       have a0' : (0 : Int) ≤ (a : Int) := by omega
       have a1' : (a : Int) ≤ (i : Int) := by omega
       have hex := ext_mid s a i
       obtain ⟨p, hp⟩ : ∃ p, p = (s.data.toList.drop a).take (i - a) := ⟨_, rfl⟩
       have HPP := Lib.hid hp
       rw [← hp] at hex
       have hpz : (mkB p).size ≤ 1000 := by
         rw [mkB_size, hp, List.length_take]
         omega
       have hrn := fun W => ref_name (w := W) (mkB p) hpz
       clear hp hpz hlt
       by_cases hend : i < s.size
       · have hend' : (i : Int) < (s.size : Int) := by omega
         cases hb : ((s[i].toNat : Int) != 47) with
         | true =>
           have HI2 := Lib.hid (split_at_more hI.out hend (fun e => by rw [e] at hb; revert hb; decide))
           clear hI hex hrn
           go_wp2_with fail
           go_roundw
           case rel => exact ⟨a, i + 1, done, by omega, rfl, by go_num, HI2, by omega, h1, k1⟩
           case measure => simp [intOf]; omega
         | false =>
           have hb2 : s[i] = 47 := by
             have : (s[i].toNat : Int) = 47 := by simpa using hb
             exact UInt8.toNat_inj.1 (by simp; omega)
           obtain ⟨rest, hr1, hr2⟩ := split_at_cut hI.out hend hb2
           rw [← HPP.out] at hr1 hr2
           have HR1 := Lib.hid hr1
           have HR2 := Lib.hid hr2
           clear hb2 hr1 hr2 hI
           go_wp2_with fail
           refine (hrn _).mono ?_
           rintro e w3 ⟨rfl, rfl⟩
           clear hrn
           cases hok : nameOk (mkB p) with
           | false =>
             have hp := HP.out
             rw [show ((splitS r).map mkB).all nameOk = false from List.all_eq_false.2 ⟨mkB p, List.mem_map.2 ⟨p, by rw [HR1.out]; simp, rfl⟩, by rw [hok]; simp⟩] at hp
             have HP2 := Lib.hid (show pathL s = none by rw [hp]; rfl)
             clear hp hok
             go_wp2_with fail
             go_ret2
             exact ⟨k1, .inl ⟨HP2.out, rfl, h1.tail⟩⟩
           | true =>
             have HI2 := Lib.hid (HR2.out hok)
             have hX := h1.alloc (.cells #[.string (mkB p)] 9)
             have kX := k1.alloc (.cells #[.string (mkB p)] 9)
             obtain ⟨q, hq⟩ : ∃ q, (done.map mkB).length = q := ⟨_, rfl⟩
             have hql : q ≤ i := by rw [← hq, List.length_map]; exact hdl
             obtain ⟨oao, ocap, ho⟩ := h1.tLen
             rw [hq] at ho
             subst ho
             have HQ := Lib.hid hq
             have e2 : rowT fSt (.slice oao q ocap) 9 1 (done.map mkB) = row (.slice oao q ocap) 9 1 q ((done.map mkB).flatMap fSt) := by unfold rowT; rw [hq]
             rw [e2] at hX
             clear e2 hok hq
             go_wp2_with (at_builtin; refine wpList_append_lit rfl (.tmp 43) (.tmp 48) 69 rfl 9 i0 _ 1 16 Tryz.underlying69 hi hz0 hz1 hz2 rfl (by decide) _ _ _ _ _ _ _ rfl (hX.pull 1) 1 1 rfl rfl rfl ?c3 ?c4 ?c5)
             case c3 => unfold maxLen; omega
             case c4 => omega
             case c5 =>
               intro v' w5 hs5 hk5
               rw [← HQ.out] at hs5
               have h7 := Sat.tSnoc (f := fSt) (x := mkB p) hs5 rfl
               have h8 := (h7.pull 1).tail
               have e3 : done.map mkB ++ [mkB p] = (done ++ [p]).map mkB := by simp
               rw [e3] at h8
               clear hs5 h7 hX h1 e3
               go_wp2_with fail
               go_roundw
               case rel => exact ⟨i + 1, i + 1, done ++ [p], by omega, by go_num, by go_num, HI2, by rw [List.length_append]; simp; omega, h8, kX.trans hk5⟩
               case measure => simp [intOf]; omega
       · obtain rfl : i = s.size := by omega
         have hend' : ¬ (s.size : Int) < (s.size : Int) := by omega
         obtain ⟨hr1, hr2⟩ := split_at_last hI.out
         rw [← HPP.out] at hr1 hr2
         have HR1 := Lib.hid hr1
         have HR2 := Lib.hid hr2
         clear hr1 hr2 hI
         go_wp2_with fail
         refine (hrn _).mono ?_
         rintro e w3 ⟨rfl, rfl⟩
         clear hrn
         cases hok : nameOk (mkB p) with
         | false =>
           have hp := HP.out
           rw [show ((splitS r).map mkB).all nameOk = false from List.all_eq_false.2 ⟨mkB p, List.mem_map.2 ⟨p, by rw [HR1.out]; simp, rfl⟩, by rw [hok]; simp⟩] at hp
           have HP2 := Lib.hid (show pathL s = none by rw [hp]; rfl)
           clear hp hok
           go_wp2_with fail
           go_ret2
           exact ⟨k1, .inl ⟨HP2.out, rfl, h1.tail⟩⟩
         | true =>
           have HI2 := Lib.hid (HR2.out hok)
           have hX := h1.alloc (.cells #[.string (mkB p)] 9)
           have kX := k1.alloc (.cells #[.string (mkB p)] 9)
           obtain ⟨q, hq⟩ : ∃ q, (done.map mkB).length = q := ⟨_, rfl⟩
           have hql : q ≤ s.size := by rw [← hq, List.length_map]; exact hdl
           obtain ⟨oao, ocap, ho⟩ := h1.tLen
           rw [hq] at ho
           subst ho
           have HQ := Lib.hid hq
           have e2 : rowT fSt (.slice oao q ocap) 9 1 (done.map mkB) = row (.slice oao q ocap) 9 1 q ((done.map mkB).flatMap fSt) := by unfold rowT; rw [hq]
           rw [e2] at hX
           clear e2 hok hq
           go_wp2_with (at_builtin; refine wpList_append_lit rfl (.tmp 43) (.tmp 48) 69 rfl 9 i0 _ 1 16 Tryz.underlying69 hi hz0 hz1 hz2 rfl (by decide) _ _ _ _ _ _ _ rfl (hX.pull 1) 1 1 rfl rfl rfl ?c3 ?c4 ?c5)
           case c3 => unfold maxLen; omega
           case c4 => omega
           case c5 =>
             intro v' w5 hs5 hk5
             rw [← HQ.out] at hs5
             have h7 := Sat.tSnoc (f := fSt) (x := mkB p) hs5 rfl
             have h8 := (h7.pull 1).tail
             have e3 : done.map mkB ++ [mkB p] = (done ++ [p]).map mkB := by simp
             rw [e3] at h8
             clear hs5 h7 hX h1 e3
             go_wp2_with fail
             go_roundw
             case rel => exact ⟨s.size + 1, s.size + 1, done ++ [p], by omega, by go_num, by go_num, HI2, by rw [List.length_append]; simp; omega, h8, kX.trans hk5⟩
             case measure => simp [intOf]
/-- How the document's look through the nodes below one stands. -/
def Seek (ks : List KidD) (nm : ByteArray) (at' : Int) (k : Nat) (fnd : Bool) (n : Int) : Prop :=
 (fnd = false ∧ n = at' ∧ ∀ (j : Nat) (x : KidD), j < k → ks[j]? = some x → sEq x.name nm = false) ∨
 (fnd = true ∧ ∃ (j : Nat) (x : KidD), n = x.node ∧ ks[j]? = some x ∧ sEq x.name nm = true ∧ ∀ (i : Nat) (y : KidD), i < j → ks[i]? = some y → sEq y.name nm = false)
theorem ref_find_any {w : World} {l : List HProp} {t : Nat} {f : Int → Option Loc} {L : List KidD} {Ws : List (List KidD)} (s : ByteArray) (hs : Sat w (refP t L Ws :: l)) (hE : EnumK f L) (hL : L.length ≤ 1000) :
   Calls Tryz.prog 77 #[.pointer (some ⟨t, 0, none⟩), .string s] w (FindPost w f s (refP t L Ws :: l)) := by
 have HE := Lib.hid hE
 have HLL := Lib.hid hL
 have hcall := ref_split s hs
 clear hE hL
 go_enter Tryz.func77, Tryz.ntmps77
 go_wp2_with fail
 refine hcall.mono ?_
 rintro e w1 ⟨k0, ⟨hp, rfl, h0⟩ | ⟨v, nms, hp, hnl, -, rfl, h0⟩⟩
 · have HP := Lib.hid hp
   clear hcall hp
   go_wp2_with fail
   go_ret2
   exact ⟨_, _, .inl ⟨HP.out, rfl, rfl⟩, rfl, h0, k0⟩
 have HP := Lib.hid hp
 clear hcall hp hs
 obtain ⟨ao, cap, rfl⟩ := h0.tLen
 obtain ⟨n, hn⟩ : ∃ n, n = nms.length := ⟨_, rfl⟩
 rw [← hn] at h0 hnl ⊢
 have HN := Lib.hid hn
 clear hn
 go_wp2_with fail
 go_loopw [8, 9, 10, 11, 12] (fun av xv kv fv jv wr => ∃ (i : Nat) (at' : Int), i ≤ n ∧ xv = .int .i64 i ∧ av = .int .i64 at' ∧ Hid (∀ a er, FindR f at' (nms.drop i) a er → FindR f 0 nms a er) ∧ Sat wr (rowT fSt (.slice ao n cap) 9 1 nms :: refP t L Ws :: l) ∧ Kp w wr) (fun _ xv _ _ _ _ => n - (intOf xv).toNat)
 case atStart => exact ⟨0, 0, by omega, rfl, rfl, Lib.hid (fun a er h => by simpa using h), h0, k0⟩
 case round =>
   clear h0 k0
   obtain ⟨i, at', hin, rfl, rfl, hI, h2, k2⟩ := hrel
   by_cases hlt : i < n
   case neg =>
     obtain rfl : n = i := by omega
     have hfin := hI.out at' 0 (by rw [List.drop_of_length_le (by rw [← HN.out]; exact Nat.le_refl _)]; exact ⟨rfl, rfl⟩)
     have HFIN := Lib.hid hfin
     clear hfin
     go_wp2_with fail
     go_ret2
     exact ⟨_, _, .inr ⟨nms, HP.out, HFIN.out⟩, rfl, h2.tail, k2⟩
   have hil : i < nms.length := by rw [← HN.out]; exact hlt
   obtain ⟨nm, hx⟩ : ∃ nm, nms[i]? = some nm := ⟨_, List.getElem?_eq_getElem hil⟩
   have hdrop : nms.drop i = nm :: nms.drop (i + 1) := by
     rw [List.drop_eq_getElem_cons hil]
     congr 1
     exact Option.some.inj ((List.getElem?_eq_getElem hil).symm.trans hx)
   rw [hdrop] at hI
   rcases h2.tForm with ⟨hv, hp⟩ | ⟨g, off, cap', hv⟩
   · rw [hp] at hx; simp at hx
   simp only [Value.slice.injEq] at hv
   obtain ⟨rfl, -, rfl⟩ := hv
   have i0' : (0 : Int) ≤ (i : Int) := by omega
   have i1' : (i : Int) < (n : Int) := by omega
   have iw : IntKind.i64.wrap ((i : Int) + 1) = (i : Int) + 1 := by rw [IntWalk.i64_in _ (by omega)]
   have HX := Lib.hid hx
   clear hx hdrop hil
   have hkc := ref_kids (n := at') (h2.pull 1) (nodup_nodes HE.out.nodup) HLL.out
   go_wp2_with fail
   refine hkc.mono ?_
   rintro e w3 ⟨kv, rfl, h3, k3⟩
   have k3 := k2.trans k3
   clear hkc h2 k2
   have hl8 : (isort klt (L.filter fun k => k.up == at')).length ≤ 1000 := by
     rw [(isort_perm klt _).length_eq]
     exact Nat.le_trans (List.length_filter_le _ _) HLL.out
   have hkk : isort klt (kidsOf (fun p => p.2.up == at') (L.map pairK)) = isort klt (L.filter fun k => k.up == at') := kids_one_n at' HE.out (enum_of HE.out) 
   have hfi : ∀ (fnd : Bool) (nv : Int), Seek (isort klt (L.filter fun k => k.up == at')) nm at' (isort klt (L.filter fun k => k.up == at')).length fnd nv ∨ (fnd = true ∧ ∃ k, Seek (isort klt (L.filter fun k => k.up == at')) nm at' k fnd nv) → (fnd = false ∧ ∀ k, f k ≠ some ⟨at', nm⟩) ∨ (fnd = true ∧ f nv = some ⟨at', nm⟩ ∧ ∀ k', f k' = some ⟨at', nm⟩ → nv ≤ k') := by
     intro fnd nv h
     rw [← hkk] at h
     have hE2 := enum_of HE.out
     have hyes : ∀ k, fnd = true → Seek (isort klt (kidsOf (fun p => p.2.up == at') (L.map pairK))) nm at' k fnd nv → (fnd = true ∧ f nv = some ⟨at', nm⟩ ∧ ∀ k', f k' = some ⟨at', nm⟩ → nv ≤ k') := by
       rintro k hf (⟨h1, _⟩ | ⟨h1, j, x, h2, h3, h4, h5⟩)
       · rw [hf] at h1; cases h1
       · rw [h2]
         exact ⟨h1, (kids_first hE2 h3 h4 (fun i hi y hy => h5 i y hi hy)).1, (kids_first hE2 h3 h4 (fun i hi y hy => h5 i y hi hy)).2⟩
     rcases h with h | ⟨hf, k, h⟩
     · cases fnd with
       | true => exact .inr (hyes _ rfl h)
       | false =>
         rcases h with ⟨_, _, h3⟩ | ⟨h1, _⟩
         · refine .inl ⟨rfl, kids_none hE2 fun k hk => ?_⟩
           obtain ⟨j, hj⟩ := List.getElem?_of_mem hk
           exact h3 j k (List.getElem?_eq_some_iff.1 hj).1 hj
         · cases h1
     · exact .inr (hyes k hf h)
   have HFI := Lib.hid hfi
   clear hfi hkk
   generalize isort klt (L.filter fun k => k.up == at') = ks at h3 hl8 HFI
   obtain ⟨kao, kcap, hkv⟩ := h3.tLen
   obtain ⟨q, hq⟩ : ∃ q, q = ks.length := ⟨_, rfl⟩
   rw [← hq] at hkv hl8 HFI
   subst hkv
   have HQ := Lib.hid hq
   clear hq
   go_wp2_with fail
   go_loopw [8, 11, 12] (fun av fv jv wr => ∃ (k : Nat) (fnd : Bool) (nv : Int), k ≤ q ∧ jv = .int .i64 k ∧ fv = .bool fnd ∧ av = .int .i64 nv ∧ Hid (Seek ks nm at' k fnd nv) ∧ Sat wr (rowT fK (.slice kao q kcap) 73 3 ks :: refP t L Ws :: rowT fSt (.slice (some ⟨g, off, none⟩) n cap) 9 1 nms :: l) ∧ Kp w wr) (fun _ fv jv _ => q - (intOf jv).toNat)
   case atStart => exact ⟨0, false, at', by omega, rfl, rfl, rfl, Lib.hid (.inl ⟨rfl, rfl, fun j x hj => absurd hj (Nat.not_lt_zero _)⟩), h3, k3⟩
   case round =>
     clear h3 k3
     obtain ⟨k, fnd, nv, hkq, rfl, rfl, rfl, hS, h4, k4⟩ := hrel
     have hdone : (fnd = true ∨ k = q) → (fnd = false ∧ ∀ k, f k ≠ some ⟨at', nm⟩) ∨ (fnd = true ∧ f nv = some ⟨at', nm⟩ ∧ ∀ k', f k' = some ⟨at', nm⟩ → nv ≤ k') := fun h => by
       rcases h with h | h
       · exact HFI.out fnd nv (.inr ⟨h, k, hS.out⟩)
       · subst h; exact HFI.out fnd nv (.inl hS.out)
     by_cases hgo : fnd = false ∧ k < q
     case pos =>
       obtain ⟨rfl, hkl⟩ := hgo
       obtain ⟨x, hx⟩ : ∃ x, ks[k]? = some x := ⟨_, List.getElem?_eq_getElem (by rw [← HQ.out]; exact hkl)⟩
       rcases h4.tForm with ⟨hv, hp⟩ | ⟨kg, koff, kcap', hv⟩
       · rw [hp] at hx; simp at hx
       simp only [Value.slice.injEq] at hv
       obtain ⟨rfl, -, rfl⟩ := hv
       have y1 := h4.tCell len_fK k 1 hx rfl
       have y2 := h4.tCell len_fK k 2 hx rfl
       have x0 := (h4.pull 2).tCell len_fSt2 i 0 HX.out rfl
       simp at x0
       have j0' : (0 : Int) ≤ (k : Int) := by omega
       have j1' : (k : Int) < (q : Int) := by omega
       have hold : nv = at' ∧ ∀ (j : Nat) (x : KidD), j < k → ks[j]? = some x → sEq x.name nm = false := by
         rcases hS.out with ⟨_, h1, h2⟩ | ⟨h, _⟩
         · exact ⟨h1, h2⟩
         · cases h
       have HXX := Lib.hid hx
       have HOLD := Lib.hid hold
       clear hx hold hS hdone
       cases heq : (x.name.toList == nm.toList) with
       | true =>
         have HS2 := Lib.hid (show Seek ks nm at' (k + 1) true x.node from .inr ⟨rfl, k, x, rfl, HXX.out, heq, HOLD.out.2⟩)
         go_wp2_with fail
         go_quiet (fail)
         go_wp2_with fail
         go_roundw
         case rel => exact ⟨k + 1, true, x.node, by omega, by go_num, rfl, rfl, HS2, h4.drewN _, k4.drewN _⟩
         case measure => simp [intOf]; omega
       | false =>
         have HS2 := Lib.hid (show Seek ks nm at' (k + 1) false nv from .inl ⟨rfl, HOLD.out.1, fun j y hj hy => by
           by_cases e : j = k
           · subst e; rw [HXX.out] at hy; cases hy; exact heq
           · exact HOLD.out.2 j y (by omega) hy⟩)
         go_wp2_with fail
         go_quiet (fail)
         go_wp2_with fail
         go_roundw
         case rel => exact ⟨k + 1, false, nv, by omega, by go_num, rfl, rfl, HS2, h4.drewN _, k4.drewN _⟩
         case measure => simp [intOf]; omega
     have hend : fnd = true ∨ k = q := by
       cases fnd with
       | true => exact .inl rfl
       | false => exact .inr (by have : ¬ k < q := fun h => hgo ⟨rfl, h⟩; omega)
     have hres := hdone hend
     clear hdone hS hgo
     have h5 := ((h4.tail.pull 1))
     rcases hres with ⟨rfl, hno⟩ | ⟨rfl, hfk, hmin⟩
     · have hkq2 : k = q := by rcases hend with h | h; (cases h); exact h
       subst hkq2
       have hfin := hI.out 0 9 (.inl ⟨rfl, rfl, hno⟩)
       have HFIN := Lib.hid hfin
       clear hfin hno hend
       go_wp2_with fail
       go_ret2
       exact ⟨_, _, .inr ⟨nms, HP.out, HFIN.out⟩, rfl, h5.tail, k4⟩
     · have HI2 := Lib.hid (show ∀ a er, FindR f nv (nms.drop (i + 1)) a er → FindR f 0 nms a er from fun a er h => hI.out a er (.inr ⟨nv, hfk, hmin, h⟩))
       clear hfk hmin hend
       by_cases hkl : k < q
       all_goals
         go_wp2_with fail
         go_roundw
         case rel => exact ⟨i + 1, nv, by omega, by go_num, rfl, HI2, h5, k4⟩
         case measure => simp [intOf]; omega
theorem Sat.rowArg2 {α : Type} {f : α → List Value} {w : World} {ao : Option Addr} {n cap q : Nat} {e : TypeId} {size : Nat} {xs : List α} {l : List HProp} (hs : Sat w (rowT f (.slice ao n cap) e size xs :: l)) (hq : xs.length = q) : ArgRow w f ao q cap xs := by
 obtain ⟨ao', cap', e', h⟩ := hs.argRow
 simp only [Value.slice.injEq] at e'
 obtain ⟨rfl, rfl, rfl⟩ := e'
 rwa [hq] at h
/-- The document's tree that was made of nothing. -/
theorem refP_new {w : World} {l : List HProp} (hs : Sat w l) : Sat (w.alloc (.cells #[.slice none 0 0, .slice none 0 0] 150)) (refP w.heap.size [] [] :: l) :=
 refP_I (L := []) (Ws := []) (vs := []) rfl (((((hs.poolNil fK).alloc (.cells #[.slice none 0 0, .slice none 0 0] 150)).pull 1).head (B := poolP fK [(.slice none 0 0, [])]) (fun h hh p hp => by
     obtain rfl := List.mem_singleton.1 hp
     exact ⟨none, 0, rfl, Nat.le_refl _, by simp [maxLen], fun h => by simp at h⟩)).tNil fV 26 1 |>.pull 2)
theorem ref_of {w : World} {l : List HProp} {ao : Option Addr} {n cap : Nat} {os : List OpD} (hs : Sat w l) (hrow : ∀ w', Sat w' l → ArgRow w' fO ao n cap os) (hz : ∀ o ∈ os, o.name.size ≤ 1000) (hn : n ≤ 100) :
   Calls Tryz.prog 71 #[.slice ao n cap] w fun e w' => ∃ t L Ws, e = .returned (.pointer (some ⟨t, 0, none⟩)) ∧ Both (growT os).2 Ws (growT os).1 L ∧ Sat w' (refP t L Ws :: l) ∧ Kp w w' := by
 have HR := Lib.hid hrow
 have HZ := Lib.hid hz
 have HN := Lib.hid (hrow w hs).len
 have hn' : (n : Int) ≤ 100 := by omega
 have h1 := refP_new hs
 have k1 := (Kp.refl w).alloc (.cells #[.slice none 0 0, .slice none 0 0] 150)
 clear hrow hz
 go_enter Tryz.func71, Tryz.ntmps71
 go_upto_region 2 with (fail)
 generalize World.alloc _ _ = w1 at h1 k1 ⊢
 generalize w.heap.size = t at h1 ⊢
 go_wp2_with fail
 go_loopw [4] (fun iv wr => ∃ (i : Nat) (L : List KidD) (Ws : List (List KidD)), i ≤ n ∧ iv = .int .i64 i ∧ Hid (Both (growT (os.take i)).2 Ws (growT (os.take i)).1 L) ∧ Sat wr (refP t L Ws :: l) ∧ Kp w wr) (fun iv _ => n - (intOf iv).toNat)
 case atStart => exact ⟨0, [], [], by omega, rfl, Lib.hid both_start, h1, k1⟩
 case round =>
   clear h1 k1
   obtain ⟨i, L, Ws, hin, rfl, HB, h2, k2⟩ := hrel
   by_cases hlt : i < n
   case neg =>
     obtain rfl : n = i := by omega
     have e1 : os.take n = os := List.take_of_length_le (by rw [HN.out]; exact Nat.le_refl _)
     rw [e1] at HB
     go_wp2_with fail
     go_ret
     exact ⟨t, L, Ws, rfl, HB.out, h2, k2⟩
   obtain ⟨o, ho⟩ : ∃ o, os[i]? = some o := ⟨_, List.getElem?_eq_getElem (by rw [HN.out]; exact hlt)⟩
   have har := HR.out _ h2.tail
   obtain ⟨b, off, rfl⟩ := har.some hlt
   obtain ⟨x0, x1, x2, x3, x4⟩ := op_at har ho
   have i0' : (0 : Int) ≤ (i : Int) := by omega
   have i1' : (i : Int) < (n : Int) := by omega
   have hzo := HZ.out o (List.mem_of_getElem? ho)
   have htk : growT (os.take (i + 1)) = stepT (growT (os.take i)) o := by rw [take_snoc' ho, growT_snoc]
   obtain ⟨b1, b2, b3, b4⟩ := both_facts HB.out
   have hgl := grow_len (os.take i)
   rw [List.length_take] at hgl
   cases hro : rightO o with
   | false =>
     have HB2 := Lib.hid (show Both (growT (os.take (i + 1))).2 Ws (growT (os.take (i + 1))).1 L by
       rw [htk]
       unfold stepT
       rw [hro]
       exact HB.out)
     have hap := ref_apply_no (t := t) o h2 hzo hro
     simp only [aggO] at hap
     clear ho har htk hzo b1 b2 b3 b4 hgl hro
     go_wp2_with fail
     refine hap.mono ?_
     rintro e w3 ⟨rfl, h3, k3⟩
     clear x0 x1 x2 x3 x4 hap
     go_wp2_with fail
     go_roundw
     case rel => exact ⟨i + 1, L, Ws, by omega, by go_num, HB2, h3, k2.trans k3⟩
     case measure => simp [intOf]; omega
   | true =>
     have HB2 := Lib.hid (show Both (growT (os.take (i + 1))).2 (Ws ++ [L]) (growT (os.take (i + 1))).1 (putL L o (can (growT (os.take i)).1 o)) by
       rw [htk]
       unfold stepT
       rw [hro]
       exact both_apply HB.out o)
     have hap := ref_apply_yes (t := t) (r := can (growT (os.take i)).1 o) o h2 b1 (by omega) (by omega) hzo (enumk_reach b1) b2 hro rfl
     simp only [aggO] at hap
     generalize can (growT (os.take i)).1 o = rb at hap HB2
     clear ho har htk hzo b1 b2 b3 b4 hgl hro
     go_wp2_with fail
     refine hap.mono ?_
     rintro e w3 ⟨rfl, h3, k3⟩
     clear x0 x1 x2 x3 x4 hap
     go_wp2_with fail
     go_roundw
     case rel => exact ⟨i + 1, _, _, by omega, by go_num, HB2, h3, k2.trans k3⟩
     case measure => simp [intOf]; omega
end Go.Proofs.YtddglbjhhnipgaaGreatDoor

import Derived.Test.YtddglbjhhnipgaaGreatDoorGG
namespace Go.Proofs.YtddglbjhhnipgaaGreatDoor
open Go Go.RowKit
set_option linter.unusedVariables false
set_option linter.unusedSimpArgs false
set_option maxRecDepth 100000
set_option maxHeartbeats 8000000
theorem byte_at (s : ByteArray) (k : Nat) (h : k < s.size) : s.data.toList[k]? = some (s.get! k) := by
 have h1 : k < s.data.toList.length := by rw [Array.length_toList]; exact h
 rw [List.getElem?_eq_getElem h1]
 congr 1
 rw [Array.getElem_toList]
 have := Go.get_at s k h
 rw [Nat.add_zero] at this
 rw [this]
 rfl
theorem good_high {b : UInt8} (h : 128 ≤ b.toNat) : goodB b = true := by
 unfold goodB
 simp
 omega
theorem good_low {b : UInt8} (c : Int) (hc : c = (b.toNat : Int)) : signOk c = goodB b := by
 subst hc
 unfold signOk goodB
 by_cases h1 : 32 ≤ b.toNat <;> by_cases h2 : b.toNat = 127 <;> by_cases h3 : b.toNat = 47 <;> simp [h1, h2, h3] <;> omega
/-- What one round of the range tells. -/
theorem rune_facts (s : ByteArray) (pos : Nat) (h : pos < s.size) (hb : ∀ k, k < pos → ∀ b, s.data.toList[k]? = some b → goodB b = true) :
   pos < pos + (Utf8.decode s pos).2 ∧ pos + (Utf8.decode s pos).2 ≤ s.size ∧ (signOk (Utf8.decode s pos).1 = false → s.data.toList.all goodB = false) ∧
   (signOk (Utf8.decode s pos).1 = true → ∀ k, k < pos + (Utf8.decode s pos).2 → ∀ b, s.data.toList[k]? = some b → goodB b = true) := by
 obtain ⟨h1, h2, h3⟩ := decode_width s pos h
 have hsame : signOk (Utf8.decode s pos).1 = goodB (s.get! pos) := by
   by_cases hlow : (s.get! pos).toNat < 128
   · have hd : Utf8.decode s pos = ((s.get! pos).toNat, 1) := by
       have ha := Go.get_at s pos h
       rw [Nat.add_zero] at ha
       rw [decode_ascii s pos h (by rw [← ha]; exact hlow), ← ha]
     rw [hd]
     exact good_low _ rfl
   · have ha := Go.get_at s pos h
     rw [Nat.add_zero] at ha
     have hd := decode_high s pos h (by rw [← ha]; omega)
     rw [good_high (by omega)]
     unfold signOk
     simp
     omega
 refine ⟨by omega, h2, fun hf => ?_, fun ht k hk b hkb => ?_⟩
 · rw [hsame] at hf
   cases hall : s.data.toList.all goodB with
   | false => rfl
   | true =>
     have := List.all_eq_true.1 hall _ (List.mem_of_getElem? (byte_at s pos h))
     rw [hf] at this
     cases this
 · rw [hsame] at ht
   by_cases h4 : k < pos
   · exact hb k h4 b hkb
   · have h5 : k < s.size := by omega
     rw [byte_at s k h5] at hkb
     cases hkb
     by_cases h6 : k = pos
     · rw [h6]; exact ht
     · have := h3 (k - pos) (by omega) (by omega)
       rw [show pos + (k - pos) = k by omega] at this
       exact good_high this
theorem name_right {W w : World} {l : List HProp} (hT : Lib.Utf8Tabs (validS_ren.g 3) (validS_ren.g 4) W) (hs : Sat w (oldH W :: l)) (s : ByteArray) (hz : s.size ≤ 1000) :
   Calls Tryz.prog 81 #[.string s] w fun e w' => e = .returned (.bool (nameOk s)) ∧ Sat w' (oldH W :: l) ∧ Kp w w' := by
 have HT := Lib.hid hT
 obtain ⟨ANS, hANS⟩ : ∃ ANS, nameOk s = ANS := ⟨_, rfl⟩
 rw [hANS]
 have HA := Lib.hid hANS
 clear hT hANS
 go_enter Tryz.func81, Tryz.ntmps81
 go_wp2_with fail
 go_loopw [4] (fun cv wr => ∃ pos, wr = w.iter s pos ∧ pos ≤ s.size ∧ Hid (∀ k, k < pos → ∀ b, s.data.toList[k]? = some b → goodB b = true)) (fun _ wr => s.size - wr.iterPos w.heap.size)
 case atStart => exact ⟨0, rfl, Nat.zero_le _, Lib.hid (fun k hk => absurd hk (Nat.not_lt_zero _))⟩
 case round =>
   obtain ⟨pos, rfl, hps, hI⟩ := hrel
   by_cases hlt : pos < s.size
   case neg =>
     have hall : s.data.toList.all goodB = true := by
       apply List.all_eq_true.2
       intro b hb
       obtain ⟨k, hk⟩ := List.getElem?_of_mem hb
       have h1 := (List.getElem?_eq_some_iff.1 hk).1
       rw [Array.length_toList] at h1
       exact hI.out k (by have : k < s.size := h1; omega) b hk
     have hne := fun ty => run_next_end (P := Tryz.prog) w s pos ty hlt
     have hv := valid_string HT.out (hs.alloc' (.stringIter s pos)) s hz
     have HV := Lib.hid hv
     have hok : nameOk s = (decide (1 ≤ s.size ∧ s.size ≤ 20) && Lib.validD s.data.toList) := by unfold nameOk; rw [hall]; rfl
     rw [HA.out] at hok
     have HOK := Lib.hid hok
     clear hv hok hall hI
     by_cases z1 : 1 ≤ s.size
     · have z1' : (1 : Int) ≤ (s.size : Int) := by omega
       by_cases z2 : s.size ≤ 20
       · have z2' : (s.size : Int) ≤ 20 := by omega
         have hd : decide (1 ≤ s.size ∧ s.size ≤ 20) = true := by simp [z1, z2]
         have HOK2 := Lib.hid (show ANS = Lib.validD s.data.toList by rw [HOK.out, hd]; rfl)
         clear hd
         go_wp2_with fail
         refine HV.out.mono ?_
         rintro e w1 ⟨rfl, h1, k1⟩
         go_wp2_with fail
         obtain rfl := HOK2.out
         go_ret
         exact ⟨rfl, h1, ((Kp.refl w).alloc _).trans k1⟩
       · have z2' : ¬ (s.size : Int) ≤ 20 := by omega
         have hd : decide (1 ≤ s.size ∧ s.size ≤ 20) = false := by simp [z2]
         have HOK2 := Lib.hid (show ANS = false by rw [HOK.out, hd]; rfl)
         clear hd
         go_wp2_with fail
         obtain rfl := HOK2.out
         go_ret
         exact ⟨rfl, hs.alloc' _, (Kp.refl w).alloc _⟩
     · have z1' : ¬ (1 : Int) ≤ (s.size : Int) := by omega
       have hd : decide (1 ≤ s.size ∧ s.size ≤ 20) = false := by simp [z1]
       have HOK2 := Lib.hid (show ANS = false by rw [HOK.out, hd]; rfl)
       clear hd
       go_wp2_with fail
       obtain rfl := HOK2.out
       go_ret
       exact ⟨rfl, hs.alloc' _, (Kp.refl w).alloc _⟩
   obtain ⟨f1, f2, f3, f4⟩ := rune_facts s pos hlt hI.out
   have hna := fun ty => run_next_any (P := Tryz.prog) w s pos ty hlt
   generalize (Utf8.decode s pos).2 = wd at f1 f2 f4 hna
   generalize (Utf8.decode s pos).1 = c at f3 f4 hna
   have hsg := fun W => name_sign (w := W) (c : Int)
   have F3 := Lib.hid f3
   have F4 := Lib.hid f4
   clear f3 f4 hI
   go_wp2_with fail
   refine (hsg _).mono ?_
   rintro e w1 ⟨rfl, rfl⟩
   cases hsc : signOk c with
   | true =>
     have HI2 := Lib.hid (F4.out hsc)
     clear hsc hna hsg
     go_wp2_with fail
     go_roundw
     case rel => exact ⟨pos + wd, rfl, f2, HI2⟩
     case measure =>
       rw [World.iterPos_iter, World.iterPos_iter]
       omega
   | false =>
     have hok : nameOk s = false := by unfold nameOk; rw [F3.out hsc]; rfl
     rw [HA.out] at hok
     have HOK := Lib.hid hok
     clear hsc hna hsg hok
     go_wp2_with fail
     obtain rfl := HOK.out
     go_ret
     exact ⟨rfl, hs.alloc' _, (Kp.refl w).alloc _⟩
/-- A right small operation. -/
structure Small (o : OpD) : Prop where
 n0 : 1 ≤ o.n
 n1 : o.n ≤ 16777215
 r0 : 0 ≤ o.r
 r1 : o.r < 256
 node0 : 256 ≤ o.node
 node1 : o.node < 264
 up0 : o.up = 0 ∨ o.up = 1 ∨ (256 ≤ o.up ∧ o.up < 264)
 nm : ∃ k, k < 8 ∧ o.name = letter k
def nodeOk (n : Int) : Bool := decide (256 ≤ n ∧ n ≤ 4294967295)
def stampOk (n r : Int) : Bool := decide (1 ≤ n ∧ n ≤ 16777215 ∧ 0 ≤ r ∧ r < 256)
def upOk (n : Int) : Bool := decide (n = 0 ∨ n = 1) || nodeOk n
/-- Which operations are. -/
def rightO (o : OpD) : Bool := stampOk o.n o.r && (nodeOk o.node && (upOk o.up && nameOk o.name))
theorem byte_get (s : ByteArray) (k : Nat) (h : k < s.size) : s.data.toList[k]? = some s[k] := by
 rw [List.getElem?_eq_getElem (by rw [size_list]; exact h)]
 rfl
theorem ref_name {w : World} (s : ByteArray) (hz : s.size ≤ 1000) : Calls Tryz.prog 129 #[.string s] w fun e w' => e = .returned (.bool (nameOk s)) ∧ w = w' := by
 obtain ⟨ANS, hANS⟩ : ∃ ANS, nameOk s = ANS := ⟨_, rfl⟩
 rw [hANS]
 have HA := Lib.hid hANS
 clear hANS
 have hfo := fun W => formed_is (w := W) s hz
 by_cases z1 : s.size < 1
 · have HOK := Lib.hid (show ANS = false by rw [← HA.out]; unfold nameOk; simp; omega)
   have z1' : (s.size : Int) < 1 := by omega
   go_enter Tryz.func129, Tryz.ntmps129
   go_wp2_with fail
   obtain rfl := HOK.out
   go_ret
   exact ⟨rfl, rfl⟩
 have z1' : ¬ (s.size : Int) < 1 := by omega
 by_cases z2 : 20 < s.size
 · have HOK := Lib.hid (show ANS = false by rw [← HA.out]; unfold nameOk; simp; omega)
   have z2' : (20 : Int) < (s.size : Int) := by omega
   go_enter Tryz.func129, Tryz.ntmps129
   go_wp2_with fail
   obtain rfl := HOK.out
   go_ret
   exact ⟨rfl, rfl⟩
 have z2' : ¬ (20 : Int) < (s.size : Int) := by omega
 go_enter Tryz.func129, Tryz.ntmps129
 go_wp2_with fail
 go_loop [3] (fun iv => ∃ i : Nat, i ≤ s.size ∧ iv = .int .i64 i ∧ Hid (∀ k, k < i → ∀ b, s.data.toList[k]? = some b → goodB b = true)) (fun iv => s.size - (intOf iv).toNat)
 case atStart => exact ⟨0, Nat.zero_le _, rfl, Lib.hid (fun k hk => absurd hk (Nat.not_lt_zero _))⟩
 case round =>
   obtain ⟨i, his, rfl, hI⟩ := hrel
   by_cases hlt : i < s.size
   case neg =>
     have hall : s.data.toList.all goodB = true := by
       apply List.all_eq_true.2
       intro b hb
       obtain ⟨k, hk⟩ := List.getElem?_of_mem hb
       have h1 := (List.getElem?_eq_some_iff.1 hk).1
       rw [size_list] at h1
       exact hI.out k (by omega) b hk
     have HOK := Lib.hid (show ANS = Lib.validD s.data.toList by rw [← HA.out]; unfold nameOk; rw [hall, show decide (1 ≤ s.size ∧ s.size ≤ 20) = true by simp; omega]; rfl)
     clear hI hall
     go_wp2_with fail
     refine (hfo _).mono ?_
     rintro e w1 ⟨rfl, rfl⟩
     go_wp2_with fail
     obtain rfl := HOK.out
     go_ret
     exact ⟨rfl, rfl⟩
   have hb := byte_get s i hlt
   have hbad : goodB s[i] = false → ANS = false := fun hg => by
     rw [← HA.out]
     unfold nameOk
     cases hall : s.data.toList.all goodB with
     | false => rfl
     | true =>
       have := List.all_eq_true.1 hall _ (List.mem_of_getElem? hb)
       rw [hg] at this
       cases this
   by_cases b1 : (s[i]).toNat < 32
   · have HOK := Lib.hid (hbad (by unfold goodB; simp; omega))
     have b1' : ((s[i]).toNat : Int) < 32 := by omega
     clear hb hbad hI
     go_wp2_with fail
     obtain rfl := HOK.out
     go_ret
     exact ⟨rfl, rfl⟩
   have b1' : ¬ ((s[i]).toNat : Int) < 32 := by omega
   cases b2 : (((s[i]).toNat : Int) == 47) with
   | true =>
     have HOK := Lib.hid (hbad (by unfold goodB; simp at b2; simp; omega))
     clear hb hbad hI
     go_wp2_with fail
     obtain rfl := HOK.out
     go_ret
     exact ⟨rfl, rfl⟩
   | false =>
     cases b3 : (((s[i]).toNat : Int) == 127) with
     | true =>
       have HOK := Lib.hid (hbad (by unfold goodB; simp at b3; simp; omega))
       clear hb hbad hI
       go_wp2_with fail
       obtain rfl := HOK.out
       go_ret
       exact ⟨rfl, rfl⟩
     | false =>
       have hg : goodB s[i] = true := by unfold goodB; simp at b2 b3; simp; omega
       have HI2 := Lib.hid (show ∀ k, k < i + 1 → ∀ b, s.data.toList[k]? = some b → goodB b = true from fun k hk b hkb => by
         by_cases e : k = i
         · subst e; rw [hb] at hkb; cases hkb; exact hg
         · exact hI.out k (by omega) b hkb)
       clear hb hbad hI hg
       go_wp2_with fail
       go_round
       case rel => exact ⟨i + 1, by omega, by go_num, HI2⟩
       case measure => simp [intOf]; omega
theorem ref_node {w : World} (n : Int) : Calls Tryz.prog 150 #[.int .i64 n] w fun e w' => e = .returned (.bool (nodeOk n)) ∧ w = w' := by
 unfold nodeOk
 by_cases h1 : 256 ≤ n
 · by_cases h2 : n ≤ 4294967295
   · rw [show decide (256 ≤ n ∧ n ≤ 4294967295) = true by simp [h1, h2]]
     go_enter Tryz.func150, Tryz.ntmps150
     go_wp2_with fail
     go_ret
     exact ⟨rfl, rfl⟩
   · rw [show decide (256 ≤ n ∧ n ≤ 4294967295) = false by simp [h2]]
     go_enter Tryz.func150, Tryz.ntmps150
     go_wp2_with fail
     go_ret
     exact ⟨rfl, rfl⟩
 · rw [show decide (256 ≤ n ∧ n ≤ 4294967295) = false by simp [h1]]
   go_enter Tryz.func150, Tryz.ntmps150
   go_wp2_with fail
   go_ret
   exact ⟨rfl, rfl⟩
theorem ref_stamp {w : World} {l : List HProp} (n r : Int) (hs : Sat w l) : Calls Tryz.prog 149 #[.agg #[.int .i64 n, .int .i64 r]] w fun e w' => e = .returned (.bool (stampOk n r)) ∧ Sat w' l ∧ Kp w w' := by
 unfold stampOk
 by_cases h1 : 0 < n
 · by_cases h2 : n < 16777216
   · by_cases h3 : 0 ≤ r
     · by_cases h4 : r ≤ 255
       · rw [show decide (1 ≤ n ∧ n ≤ 16777215 ∧ 0 ≤ r ∧ r < 256) = true by simp; omega]
         go_enter Tryz.func149, Tryz.ntmps149
         go_wp2_with fail
         go_ret
         exact ⟨rfl, hs.alloc' _, (Kp.refl w).alloc _⟩
       · rw [show decide (1 ≤ n ∧ n ≤ 16777215 ∧ 0 ≤ r ∧ r < 256) = false by simp; omega]
         go_enter Tryz.func149, Tryz.ntmps149
         go_wp2_with fail
         go_ret
         exact ⟨rfl, hs.alloc' _, (Kp.refl w).alloc _⟩
     · rw [show decide (1 ≤ n ∧ n ≤ 16777215 ∧ 0 ≤ r ∧ r < 256) = false by simp; omega]
       go_enter Tryz.func149, Tryz.ntmps149
       go_wp2_with fail
       go_ret
       exact ⟨rfl, hs.alloc' _, (Kp.refl w).alloc _⟩
   · rw [show decide (1 ≤ n ∧ n ≤ 16777215 ∧ 0 ≤ r ∧ r < 256) = false by simp; omega]
     go_enter Tryz.func149, Tryz.ntmps149
     go_wp2_with fail
     go_ret
     exact ⟨rfl, hs.alloc' _, (Kp.refl w).alloc _⟩
 · rw [show decide (1 ≤ n ∧ n ≤ 16777215 ∧ 0 ≤ r ∧ r < 256) = false by simp; omega]
   go_enter Tryz.func149, Tryz.ntmps149
   go_wp2_with fail
   go_ret
   exact ⟨rfl, hs.alloc' _, (Kp.refl w).alloc _⟩
theorem ref_right {w : World} {l : List HProp} (o : OpD) (hs : Sat w l) (hz : o.name.size ≤ 1000) : Calls Tryz.prog 123 #[aggO o] w fun e w' => e = .returned (.bool (rightO o)) ∧ Sat w' l ∧ Kp w w' := by
 obtain ⟨ANS, hANS⟩ : ∃ ANS, rightO o = ANS := ⟨_, rfl⟩
 rw [hANS]
 have HA := Lib.hid hANS
 obtain ⟨n, r, node, up, name⟩ := o
 dsimp only at hz
 clear hANS
 have hB := hs.alloc (.cells #[.int .i64 n, .int .i64 r, .int .i64 node, .int .i64 up, .string name] 88)
 have kB := (Kp.refl w).alloc (.cells #[.int .i64 n, .int .i64 r, .int .i64 node, .int .i64 up, .string name] 88)
 simp only [aggO]
 go_enter Tryz.func123, Tryz.ntmps123
 go_upto_region 1 with (fail)
 generalize World.alloc _ _ = w1 at hB kB ⊢
 generalize w.heap.size = B at hB ⊢
 have b0 := hB.cell 0
 have b1 := hB.cell 1
 simp at b0 b1
 go_wp2_with fail
 refine (ref_stamp n r hB).mono ?_
 rintro e w2 ⟨rfl, h2, k2⟩
 have k2 := kB.trans k2
 clear b0 b1 hB kB
 have b2 := h2.cell 2
 have b3 := h2.cell 3
 have b4 := h2.cell 4
 simp at b2 b3 b4
 go_wp2_with fail
 refine (ref_name name hz).mono ?_
 rintro e w3 ⟨rfl, rfl⟩
 go_wp2_with fail
 refine (ref_node node).mono ?_
 rintro e w3 ⟨rfl, rfl⟩
 go_wp2_with fail
 refine (ref_node up).mono ?_
 rintro e w3 ⟨rfl, rfl⟩
 have hr : rightO ⟨n, r, node, up, name⟩ = (stampOk n r && (nameOk name && (nodeOk node && (nodeOk up || (up == 0 || up == 1))))) := by
   unfold rightO upOk
   cases stampOk n r <;> cases nameOk name <;> cases nodeOk node <;> cases nodeOk up <;> by_cases e0 : up = 0 <;> by_cases e1 : up = 1 <;> simp_all
 rw [HA.out] at hr
 generalize stampOk n r = q1 at hr
 generalize nameOk name = q2 at hr
 generalize nodeOk node = q3 at hr
 generalize nodeOk up = q4 at hr
 cases e0 : (up == 0) with
 | true =>
   rw [e0] at hr
   have HR := Lib.hid hr
   clear hr
   cases q1 <;> cases q2 <;> cases q3 <;> cases q4
   all_goals
     go_wp2_with fail
     have hr := HR.out
     simp at hr
     subst hr
     go_ret
     exact ⟨rfl, h2.tail, k2⟩
 | false =>
   cases e1 : (up == 1) with
   | true =>
     rw [e0, e1] at hr
     have HR := Lib.hid hr
     clear hr
     cases q1 <;> cases q2 <;> cases q3 <;> cases q4
     all_goals
       go_wp2_with fail
       have hr := HR.out
       simp at hr
       subst hr
       go_ret
       exact ⟨rfl, h2.tail, k2⟩
   | false =>
     rw [e0, e1] at hr
     have HR := Lib.hid hr
     clear hr
     cases q1 <;> cases q2 <;> cases q3 <;> cases q4
     all_goals
       go_wp2_with fail
       have hr := HR.out
       simp at hr
       subst hr
       go_ret
       exact ⟨rfl, h2.tail, k2⟩
end Go.Proofs.YtddglbjhhnipgaaGreatDoor

import Derived.Test.YtddglbjhhnipgaaGreatDoorGA
import Derived.Test.YtddglbjhhnipgaaGreatDoorGE
import Derived.Test.YtddglbjhhnipgaaGreatDoorGJ
namespace Go.Proofs.YtddglbjhhnipgaaGreatDoor
open Go Go.RowKit
set_option linter.unusedVariables false
set_option linter.unusedSimpArgs false
set_option maxRecDepth 100000
set_option maxHeartbeats 8000000
/-! ### the document's tree: a list of nodes -/
structure EnumK (f : Int → Option Loc) (L : List KidD) : Prop where
 mem : ∀ k ∈ L, f k.node = some ⟨k.up, k.name⟩
 nodup : (L.map KidD.node).Nodup
 all : ∀ n l, f n = some l → (⟨l.up, l.name, n⟩ : KidD) ∈ L
theorem enumk_nil : EnumK (fun _ => none) [] := ⟨fun k h => (by cases h), List.nodup_nil, fun n l h => (by cases h)⟩
theorem ref_at_none {w : World} {ao : Option Addr} {n cap : Nat} {L : List KidD} {f : Int → Option Loc} {x : Int} (ha : ArgRow w fK ao n cap L) (hE : EnumK f L) (hf : f x = none) (hn : n ≤ 1000) :
   Calls Tryz.prog 126 #[.slice ao n cap, .int .i64 x] w fun e w' => e = .returned (.int .i64 (-1)) ∧ w = w' := by
 have HL := Lib.hid ha.len
 have hn' : (n : Int) ≤ 1000 := by omega
 go_enter Tryz.func126, Tryz.ntmps126
 go_wp2_with fail
 go_loop [5] (fun iv => ∃ i : Nat, i ≤ n ∧ iv = .int .i64 i) (fun iv => n - (intOf iv).toNat)
 case atStart => exact ⟨0, by omega, rfl⟩
 case round =>
   obtain ⟨i, hin, rfl⟩ := hrel
   by_cases hlt : i < n
   case neg =>
     obtain rfl : n = i := by omega
     go_wp2_with fail
     go_ret
     exact ⟨rfl, rfl⟩
   obtain ⟨y, hy⟩ : ∃ y, L[i]? = some y := ⟨_, List.getElem?_eq_getElem (by rw [HL.out]; exact hlt)⟩
   obtain ⟨b, off, rfl⟩ := ha.some hlt
   have y2 := ha.cell len_fK 2 rfl hy rfl
   have hne : (y.node == x) = false := by
     rw [beq_eq_false_iff_ne]
     intro e
     have := hE.mem y (List.mem_of_getElem? hy)
     rw [e, hf] at this
     cases this
   have i0' : (0 : Int) ≤ (i : Int) := by omega
   have i1' : (i : Int) < (n : Int) := by omega
   clear hy
   go_wp2_with fail
   go_round
   case rel => exact ⟨i + 1, by omega, by go_num⟩
   case measure => simp [intOf]; omega
theorem ref_at_some {w : World} {ao : Option Addr} {n cap : Nat} {L : List KidD} {f : Int → Option Loc} {x : Int} {l : Loc} (ha : ArgRow w fK ao n cap L) (hE : EnumK f L) (hf : f x = some l) (hn : n ≤ 1000) :
   Calls Tryz.prog 126 #[.slice ao n cap, .int .i64 x] w fun e w' => ∃ i : Nat, e = .returned (.int .i64 i) ∧ L[i]? = some ⟨l.up, l.name, x⟩ ∧ w = w' := by
 obtain ⟨j, hj⟩ := List.getElem?_of_mem (hE.all x l hf)
 have hjl := (List.getElem?_eq_some_iff.1 hj).1
 rw [ha.len] at hjl
 have HL := Lib.hid ha.len
 have HJ := Lib.hid hj
 have hn' : (n : Int) ≤ 1000 := by omega
 clear hj
 go_enter Tryz.func126, Tryz.ntmps126
 go_wp2_with fail
 go_loop [5] (fun iv => ∃ i : Nat, i ≤ j ∧ iv = .int .i64 i) (fun iv => n - (intOf iv).toNat)
 case atStart => exact ⟨0, by omega, rfl⟩
 case round =>
   obtain ⟨i, hin, rfl⟩ := hrel
   obtain ⟨y, hy⟩ : ∃ y, L[i]? = some y := ⟨_, List.getElem?_eq_getElem (by rw [HL.out]; omega)⟩
   obtain ⟨b, off, rfl⟩ := ha.some (i := i) (by omega)
   have y2 := ha.cell len_fK 2 rfl hy rfl
   have i0' : (0 : Int) ≤ (i : Int) := by omega
   have i1' : (i : Int) < (n : Int) := by omega
   by_cases hij : i = j
   · subst hij
     rw [HJ.out] at hy
     cases hy
     have hne : (x == x) = true := by simp
     go_wp2_with fail
     go_ret
     exact ⟨i, rfl, HJ.out, rfl⟩
   have hne : (y.node == x) = false := by
     rw [beq_eq_false_iff_ne]
     intro e
     refine hij (nodup_idx hE.nodup (i := i) (j := j) (a := x) ?_ ?_)
     · rw [List.getElem?_map, hy, ← e]; rfl
     · rw [List.getElem?_map, HJ.out]; rfl
   clear hy
   go_wp2_with fail
   go_round
   case rel => exact ⟨i + 1, by omega, by go_num⟩
   case measure => simp [intOf]; omega
def fV (v : Value) : List Value := [v]
theorem len_fV (v : Value) : (fV v).length = 1 := rfl
/-- The document's tree at block t: its nodes, and what they were ahead of each operation. -/
def refP (t : Nat) (L : List KidD) (Ws : List (List KidD)) : HProp :=
 ex fun v => ex fun vw => ex fun vs : List Value => all [lift (vs.length = Ws.length), own t (.cells #[v, vw] 150 (0, 0)), rowT fV vw 26 1 vs, poolP fK ((v, L) :: vs.zip Ws)]
theorem refP_I {w : World} {l : List HProp} {t : Nat} {L : List KidD} {Ws : List (List KidD)} {v vw : Value} {vs : List Value} (h : vs.length = Ws.length)
   (hs : Sat w (own t (.cells #[v, vw] 150 (0, 0)) :: rowT fV vw 26 1 vs :: poolP fK ((v, L) :: vs.zip Ws) :: l)) : Sat w (refP t L Ws :: l) :=
 Sat.exI v (Sat.exI vw (Sat.exI vs (Sat.allI (hs.liftI h))))
theorem refP_E {w : World} {l : List HProp} {t : Nat} {L : List KidD} {Ws : List (List KidD)} (hs : Sat w (refP t L Ws :: l)) :
   ∃ v vw vs, vs.length = Ws.length ∧ Sat w (own t (.cells #[v, vw] 150 (0, 0)) :: rowT fV vw 26 1 vs :: poolP fK ((v, L) :: vs.zip Ws) :: l) := by
 obtain ⟨v, h⟩ := hs.exE
 obtain ⟨vw, h⟩ := h.exE
 obtain ⟨vs, h⟩ := h.exE
 exact ⟨v, vw, vs, h.allE.liftE⟩
/-- What a method that only reads needs of the tree. -/
theorem refP_L {w : World} {l : List HProp} {t : Nat} {L : List KidD} {Ws : List (List KidD)} (hs : Sat w (refP t L Ws :: l)) : ∃ ao cap, w.cell? ⟨t, 0, none⟩ = some (.slice ao L.length cap) ∧ ArgRow w fK ao L.length cap L ∧ t < w.heap.size := by
 obtain ⟨v, vw, vs, hl, h⟩ := refP_E hs
 obtain ⟨ao, cap, rfl, ha⟩ := (h.pull 2).poolArg (v := v) (ks := L) (by simp)
 have c0 := h.cell 0
 simp at c0
 exact ⟨ao, cap, c0, ha, h.lt⟩
theorem ref_known {w : World} {l : List HProp} {t : Nat} {L : List KidD} {Ws : List (List KidD)} {f : Int → Option Loc} {n : Int} (hs : Sat w (refP t L Ws :: l)) (hE : EnumK f L) (hL : L.length ≤ 1000) :
   Calls Tryz.prog 124 #[.pointer (some ⟨t, 0, none⟩), .int .i64 n] w fun e w' => e = .returned (.bool (known f n)) ∧ w = w' := by
 obtain ⟨ao, cap, c0, ha, _⟩ := refP_L hs
 cases e0 : (n == 0) with
 | true =>
   obtain rfl : n = 0 := by simpa using e0
   go_enter Tryz.func124, Tryz.ntmps124
   go_wp2_with fail
   go_ret
   exact ⟨by simp [known], rfl⟩
 | false =>
   cases e1 : (n == 1) with
   | true =>
     obtain rfl : n = 1 := by simpa using e1
     go_enter Tryz.func124, Tryz.ntmps124
     go_wp2_with fail
     go_ret
     exact ⟨by simp [known], rfl⟩
   | false =>
     cases hf : f n with
     | none =>
       have hk : known f n = false := by unfold known; rw [hf, e0, e1]; rfl
       rw [hk]
       have hat := ref_at_none (x := n) ha hE hf hL
       clear hk hf hE
       go_enter Tryz.func124, Tryz.ntmps124
       go_wp2_with fail
       refine hat.mono ?_
       rintro e w1 ⟨rfl, rfl⟩
       go_wp2_with fail
       go_ret
       exact ⟨rfl, rfl⟩
     | some s =>
       have hk : known f n = true := by unfold known; rw [hf]; rfl
       rw [hk]
       have hat := ref_at_some (x := n) ha hE hf hL
       clear hk hf hE
       go_enter Tryz.func124, Tryz.ntmps124
       go_wp2_with fail
       refine hat.mono ?_
       rintro e w1 ⟨i, rfl, -, rfl⟩
       have hi0 : (0 : Int) ≤ (i : Int) := by omega
       go_wp2_with fail
       go_ret
       exact ⟨rfl, rfl⟩
theorem ref_spot {w : World} {l : List HProp} {t : Nat} {L : List KidD} {Ws : List (List KidD)} {f : Int → Option Loc} {n : Int} (hs : Sat w (refP t L Ws :: l)) (hE : EnumK f L) (hL : L.length ≤ 1000) :
   Calls Tryz.prog 100 #[.pointer (some ⟨t, 0, none⟩), .int .i64 n] w fun e w' => e = .returned (vL (f n)) ∧ Sat w' (refP t L Ws :: l) ∧ Kp w w' := by
 have hB := hs.alloc (.cells #[.bool false, .int .i64 0, .string ⟨#[]⟩] 98)
 have kB := (Kp.refl w).alloc (.cells #[.bool false, .int .i64 0, .string ⟨#[]⟩] 98)
 cases hf : f n with
 | none =>
   go_enter Tryz.func100, Tryz.ntmps100
   go_upto_region 1 with (fail)
   generalize World.alloc _ _ = w1 at hB kB ⊢
   generalize w.heap.size = B at hB ⊢
   obtain ⟨ao, cap, c0, ha, _⟩ := refP_L (hB.pull 1)
   have hat := ref_at_none (x := n) ha hE hf hL
   go_wp2_with fail
   refine hat.mono ?_
   rintro e w2 ⟨rfl, rfl⟩
   clear hat
   have hC := ((hB.set 0 (.bool false)).set 1 (.int .i64 0)).set 2 (.string ⟨#[]⟩)
   have kC := ((kB.setCell ⟨B, 0, none⟩ (.bool false)).setCell ⟨B, 1, none⟩ (.int .i64 0)).setCell ⟨B, 2, none⟩ (.string ⟨#[]⟩)
   have f0 := hB.free 0
   have f1 := hB.free 1
   have f2 := hB.free 2
   have b0 := hB.cell 0
   have b1 := hB.cell 1
   have b2 := hB.cell 2
   simp at b0 b1 b2
   go_wp2_with fail
   exact bodyPost_ret (v := .agg #[.bool false, .int .i64 0, .string ⟨#[]⟩]) (by simp [results, Tryz.results100, go_sem, b0, b1, b2, f0, f1, f2]) rfl ⟨rfl, hC.tail, kC⟩
 | some s =>
   go_enter Tryz.func100, Tryz.ntmps100
   go_upto_region 1 with (fail)
   generalize World.alloc _ _ = w1 at hB kB ⊢
   generalize w.heap.size = B at hB ⊢
   obtain ⟨ao, cap, c0, ha, ht⟩ := refP_L (hB.pull 1)
   have hat := ref_at_some (x := n) ha hE hf hL
   have hL' : (L.length : Int) ≤ 1000 := by omega
   generalize hn : L.length = m at ha c0 hat hL'
   have HN := Lib.hid hn
   clear hn
   go_wp2_with fail
   refine hat.mono ?_
   rintro e w2 ⟨i, rfl, hi, rfl⟩
   clear hat
   have hilt := (List.getElem?_eq_some_iff.1 hi).1
   rw [HN.out] at hilt
   obtain ⟨b, off, rfl⟩ := ha.some hilt
   have y0 := ha.cell len_fK 0 rfl hi rfl
   have y1 := ha.cell len_fK 1 rfl hi rfl
   rw [Nat.add_zero] at y0
   have i0' : (0 : Int) ≤ (i : Int) := by omega
   have i1' : (i : Int) < (m : Int) := by omega
   have hbl := World.block_lt_of_cell? _ _ y1
   have hC := (((hB.set 0 (.bool true)).set 1 (.int .i64 s.up)).set 2 (.string s.name)).drew
   have kC := (((kB.setCell ⟨B, 0, none⟩ (.bool true)).setCell ⟨B, 1, none⟩ (.int .i64 s.up)).setCell ⟨B, 2, none⟩ (.string s.name)).drew
   have f0 := hB.free 0
   have f1 := hB.free 1
   have f2 := hB.free 2
   have b0 := hB.cell 0
   have b1 := hB.cell 1
   have b2 := hB.cell 2
   simp at b0 b1 b2
   clear hi
   go_wp2_with fail
   go_region
   all_goals
     go_wp2_with fail
     exact bodyPost_ret (v := .agg #[.bool true, .int .i64 s.up, .string s.name]) (by simp [results, Tryz.results100, go_sem, b0, b1, b2, f0, f1, f2]) rfl ⟨rfl, hC.tail, kC⟩
theorem ref_above {w : World} {l : List HProp} {t : Nat} {L : List KidD} {Ws : List (List KidD)} {f : Int → Option Loc} {a b : Int} {k : Nat} {r : Bool} (hs : Sat w (refP t L Ws :: l)) (hE : EnumK f L) (hL : L.length ≤ 1000) (hk : Reach f b k) (hkl : k ≤ L.length) (hr : r = true ↔ known f b = true ∧ Anc f a b) :
   Calls Tryz.prog 125 #[.pointer (some ⟨t, 0, none⟩), .int .i64 a, .int .i64 b] w fun e w' => e = .returned (.bool r) ∧ w = w' := by
 have hkc := ref_known (n := b) hs hE hL
 obtain ⟨ao, cap, c0, ha, ht⟩ := refP_L hs
 have hL' : (L.length : Int) ≤ 1000 := by omega
 cases hkn : known f b with
 | false =>
   have hr' : r = false := by
     cases r with
     | false => rfl
     | true => have := (hr.1 rfl).1; rw [hkn] at this; cases this
   subst hr'
   rw [hkn] at hkc
   clear hr
   go_enter Tryz.func125, Tryz.ntmps125
   go_wp2_with fail
   refine hkc.mono ?_
   rintro e w1 ⟨rfl, rfl⟩
   go_wp2_with fail
   go_ret
   exact ⟨rfl, rfl⟩
 | true =>
   have hr2 : r = true ↔ Anc f a b := by rw [hr, hkn]; simp
   have HR := Lib.hid hr2
   rw [hkn] at hkc
   clear hr hr2 hkn
   have HE := Lib.hid hE
   have HL := Lib.hid hL
   have HK := Lib.hid hk
   generalize hn : L.length = m at ha c0 hkl hL'
   have HN := Lib.hid hn
   clear hn hE hk
   go_enter Tryz.func125, Tryz.ntmps125
   go_wp2_with fail
   refine hkc.mono ?_
   rintro e w1 ⟨rfl, rfl⟩
   clear hkc
   go_wp2_with fail
   go_loop [2, 8, 9] (fun bv iv kv => ∃ (b' : Int) (k' i : Nat), bv = .int .i64 b' ∧ iv = .int .i64 i ∧ i + k' ≤ m ∧ Hid (Reach f b' k') ∧ Hid (r = true ↔ Anc f a b')) (fun _ iv _ => m + 1 - (intOf iv).toNat)
   case atStart => exact ⟨b, k, 0, rfl, rfl, by omega, HK, HR⟩
   case round =>
     clear HK HR hkl
     obtain ⟨b', k', i, rfl, rfl, hik, HK, HR⟩ := hrel
     have j0 : (i : Int) ≤ (m : Int) := by omega
     have iw : IntKind.i64.wrap ((i : Int) + 1) = (i : Int) + 1 := by rw [IntWalk.i64_in _ (by omega)]
     cases hab : (a == b') with
     | true =>
       obtain rfl : a = b' := by simpa using hab
       have hr' : r = true := HR.out.2 .here
       subst hr'
       go_wp2_with fail
       go_ret
       exact ⟨rfl, rfl⟩
     | false =>
       have hne : a ≠ b' := by simpa using hab
       cases hf : f b' with
       | none =>
         have hr' : r = false := by
           cases r with
           | false => rfl
           | true => exact absurd ((HR.out.1 rfl).stop hf) hne
         subst hr'
         have hat := ref_at_none (x := b') ha HE.out hf (by rw [← HN.out]; exact HL.out)
         clear hf hne
         go_wp2_with fail
         refine hat.mono ?_
         rintro e w2 ⟨rfl, rfl⟩
         go_wp2_with fail
         go_ret
         exact ⟨rfl, rfl⟩
       | some s =>
         obtain ⟨k2, hk2, hk3⟩ : ∃ k2, Reach f s.up k2 ∧ k' = k2 + 1 := by
           cases HK.out with
           | zero e => rw [hf] at e; cases e
           | succ e h => rw [hf] at e; cases e; exact ⟨_, h, rfl⟩
         have HR2 := Lib.hid (HR.out.trans (Anc.step hf hne))
         have HK2 := Lib.hid hk2
         have hat := ref_at_some (x := b') ha HE.out hf (by rw [← HN.out]; exact HL.out)
         clear hf hne hk2 HR HK
         go_wp2_with fail
         refine hat.mono ?_
         rintro e w2 ⟨q, rfl, hq, rfl⟩
         clear hat
         have hilt := (List.getElem?_eq_some_iff.1 hq).1
         rw [HN.out] at hilt
         obtain ⟨bb, off, rfl⟩ := ha.some hilt
         have y0 := ha.cell len_fK 0 rfl hq rfl
         rw [Nat.add_zero] at y0
         have i0' : (0 : Int) ≤ (q : Int) := by omega
         have i1' : (q : Int) < (m : Int) := by omega
         clear hq
         go_wp2_with fail
         go_round
         case rel => exact ⟨s.up, k2, i + 1, rfl, by go_num, by omega, HK2, HR2⟩
         case measure => simp [intOf]; omega
theorem klt_up {a b : KidD} (h : a.up ≠ b.up) : klt a b = decide (a.up < b.up) := by
 rw [Bool.eq_iff_iff, klt_iff, decide_eq_true_iff]
 unfold kL
 constructor
 · rintro (h1 | ⟨h1, _⟩)
   · exact h1
   · exact absurd h1 h
 · exact .inl
theorem klt_name {a b : KidD} (h : a.up = b.up) (h2 : a.name ≠ b.name) : klt a b = Op.bytesLess a.name.toList b.name.toList := by
 rw [Bool.eq_iff_iff, klt_iff]
 unfold kL
 constructor
 · rintro (h1 | ⟨_, h1 | ⟨h1, _⟩⟩)
   · omega
   · exact h1
   · exact absurd h1 h2
 · exact fun h1 => .inr ⟨h, .inl h1⟩
theorem klt_num {a b : KidD} (h : a.up = b.up) (h2 : a.name = b.name) : klt a b = decide (a.node < b.node) := by
 rw [Bool.eq_iff_iff, klt_iff, decide_eq_true_iff]
 unfold kL
 constructor
 · rintro (h1 | ⟨_, h1 | ⟨_, h1⟩⟩)
   · omega
   · rw [h2, bl_irr] at h1; cases h1
   · exact h1
 · exact fun h1 => .inr ⟨h, .inr ⟨h2, h1⟩⟩
theorem ref_less {w : World} {l : List HProp} (hs : Sat w l) (a b : KidD) :
   Calls Tryz.prog 130 #[aggK a, aggK b] w fun e w' => e = .returned (.bool (klt a b)) ∧ Sat w' l ∧ Kp w w' := by
 have hB := (hs.alloc' (.cells #[.int .i64 a.up, .string a.name, .int .i64 a.node] 73)).alloc' (.cells #[.int .i64 b.up, .string b.name, .int .i64 b.node] 73)
 have kB := ((Kp.refl w).alloc (.cells #[.int .i64 a.up, .string a.name, .int .i64 a.node] 73)).alloc (.cells #[.int .i64 b.up, .string b.name, .int .i64 b.node] 73)
 simp only [aggK]
 cases h1 : (a.up != b.up) with
 | true =>
   rw [klt_up (by simpa using h1)]
   by_cases h2 : a.up < b.up
   all_goals
     go_enter Tryz.func130, Tryz.ntmps130
     go_wp2_with fail
     go_ret
     exact ⟨by simp [h2], hB, kB⟩
 | false =>
   have h1' : a.up = b.up := by simpa using h1
   cases h2 : (a.name.toList == b.name.toList) with
   | false =>
     rw [klt_name h1' (fun e => by rw [e] at h2; simp at h2)]
     have HX := Lib.hid h1'
     clear h1'
     go_enter Tryz.func130, Tryz.ntmps130
     go_wp2_with fail
     go_ret
     exact ⟨rfl, hB, kB⟩
   | true =>
     have h2' : a.name = b.name := name_eq (by simpa using h2)
     rw [klt_num h1' h2']
     have HX := Lib.hid h1'
     have HY := Lib.hid h2'
     clear h1' h2'
     by_cases h3 : a.node < b.node
     all_goals
       go_enter Tryz.func130, Tryz.ntmps130
       go_wp2_with fail
       go_ret
       exact ⟨by simp [h3], hB, kB⟩
/-! Sorted: always the least of those that are left -/
theorem isort_pair2 {l : List KidD} {i j : Nat} {x y : KidD} (hij : i < j) (hx : (isort klt l)[i]? = some x) (hy : (isort klt l)[j]? = some y) : klt y x = false := by
 have h := isortR_sorted strict_klt l
 have h2 : (isort klt l).Pairwise fun a b => klt b a = false := by
   unfold isort
   exact List.pairwise_reverse.2 h
 obtain ⟨hi1, hi2⟩ := List.getElem?_eq_some_iff.1 hx
 obtain ⟨hj1, hj2⟩ := List.getElem?_eq_some_iff.1 hy
 have := List.pairwise_iff_getElem.1 h2 i j hi1 hj1 hij
 rw [hi2, hj2] at this
 exact this
theorem pick_next {L : List KidD} {k : Nat} {x : KidD} (hnd : L.Nodup) (hx : x ∈ L) (hk : k < L.length) (hxk : x ∉ (isort klt L).take k) (hmin : ∀ y ∈ L, y ∉ (isort klt L).take k → klt y x = false) : (isort klt L)[k]? = some x := by
 have hp := isort_perm klt L
 have hlen := hp.length_eq
 have hnd2 := hp.nodup_iff.2 hnd
 obtain ⟨s, hs⟩ : ∃ s, (isort klt L)[k]? = some s := ⟨_, List.getElem?_eq_getElem (by omega)⟩
 obtain ⟨m, hm⟩ := List.getElem?_of_mem (hp.mem_iff.2 hx)
 have hkm : k ≤ m := by
   rcases Nat.lt_or_ge m k with h | h
   · exact absurd (List.mem_of_getElem? (i := m) (by rw [List.getElem?_take, if_pos h]; exact hm)) hxk
   · exact h
 have hsn : s ∉ (isort klt L).take k := fun h => by
   obtain ⟨j, hj⟩ := List.getElem?_of_mem h
   rw [List.getElem?_take] at hj
   split at hj
   · have := nodup_idx hnd2 hj hs
     omega
   · cases hj
 have h1 := hmin s (hp.mem_iff.1 (List.mem_of_getElem? hs)) hsn
 by_cases e : k = m
 · subst e; exact hm
 · have h2 := isort_pair2 (show k < m by omega) hs hm
   rcases strict_klt.tri s x with h3 | h3 | h3
   · rw [h1] at h3; cases h3
   · rw [hs, h3]
   · rw [h2] at h3; cases h3
theorem pick_left {L : List KidD} {k : Nat} (hnd : L.Nodup) (hk : k < L.length) : ∃ x ∈ L, x ∉ (isort klt L).take k := by
 have hp := isort_perm klt L
 have hlen := hp.length_eq
 have hnd2 := hp.nodup_iff.2 hnd
 obtain ⟨s, hs⟩ : ∃ s, (isort klt L)[k]? = some s := ⟨_, List.getElem?_eq_getElem (by omega)⟩
 refine ⟨s, hp.mem_iff.1 (List.mem_of_getElem? hs), fun h => ?_⟩
 obtain ⟨j, hj⟩ := List.getElem?_of_mem h
 rw [List.getElem?_take] at hj
 split at hj
 · have := nodup_idx hnd2 hj hs
   omega
 · cases hj
/-- Which are used. -/
def Used (L : List KidD) (k : Nat) (us : List Bool) : Prop := us.length = L.length ∧ ∀ (i : Nat) (x : KidD), L[i]? = some x → ∃ u : Bool, us[i]? = some u ∧ (u = true ↔ x ∈ (isort klt L).take k)
/-- The least of those that were looked at, and are left. -/
def Best (L : List KidD) (k i : Nat) (bn : Int) : Prop := (bn = -1 ∧ ∀ (j : Nat) (x : KidD), j < i → L[j]? = some x → x ∈ (isort klt L).take k) ∨
 ∃ (b : Nat) (x : KidD), bn = b ∧ b < i ∧ L[b]? = some x ∧ x ∉ (isort klt L).take k ∧ ∀ (j : Nat) (y : KidD), j < i → L[j]? = some y → y ∉ (isort klt L).take k → klt y x = false
theorem best_used {L : List KidD} {k i : Nat} {bn : Int} {x : KidD} (h : Best L k i bn) (hx : L[i]? = some x) (hu : x ∈ (isort klt L).take k) : Best L k (i + 1) bn := by
 rcases h with ⟨h1, h2⟩ | ⟨b, z, h1, h2, h3, h4, h5⟩
 · refine .inl ⟨h1, fun j y hj hy => ?_⟩
   by_cases e : j = i
   · subst e; rw [hx] at hy; cases hy; exact hu
   · exact h2 j y (by omega) hy
 · refine .inr ⟨b, z, h1, by omega, h3, h4, fun j y hj hy hn => ?_⟩
   by_cases e : j = i
   · subst e; rw [hx] at hy; cases hy; exact absurd hu hn
   · exact h5 j y (by omega) hy hn
theorem best_first {L : List KidD} {k i : Nat} {x : KidD} (h : ∀ (j : Nat) (x : KidD), j < i → L[j]? = some x → x ∈ (isort klt L).take k) (hx : L[i]? = some x) (hu : x ∉ (isort klt L).take k) : Best L k (i + 1) (i : Nat) := by
 refine .inr ⟨i, x, rfl, by omega, hx, hu, fun j y hj hy hn => ?_⟩
 by_cases e : j = i
 · subst e; rw [hx] at hy; cases hy; exact strict_klt.irr _
 · exact absurd (h j y (by omega) hy) hn
theorem best_less {L : List KidD} {k i b : Nat} {x z : KidD} (hz : ∀ (j : Nat) (y : KidD), j < i → L[j]? = some y → y ∉ (isort klt L).take k → klt y z = false) (hx : L[i]? = some x) (hu : x ∉ (isort klt L).take k) (hl : klt x z = true) : Best L k (i + 1) (i : Nat) := by
 refine .inr ⟨i, x, rfl, by omega, hx, hu, fun j y hj hy hn => ?_⟩
 by_cases e : j = i
 · subst e; rw [hx] at hy; cases hy; exact strict_klt.irr _
 · cases hyx : klt y x with
   | false => rfl
   | true =>
     have := strict_klt.trans y x z hyx hl
     rw [hz j y (by omega) hy hn] at this
     cases this
theorem best_keep {L : List KidD} {k i b : Nat} {x z : KidD} (hb : b < i) (hzb : L[b]? = some z) (hzn : z ∉ (isort klt L).take k) (hz : ∀ (j : Nat) (y : KidD), j < i → L[j]? = some y → y ∉ (isort klt L).take k → klt y z = false) (hx : L[i]? = some x) (hl : klt x z = false) : Best L k (i + 1) (b : Nat) := by
 refine .inr ⟨b, z, rfl, by omega, hzb, hzn, fun j y hj hy hn => ?_⟩
 by_cases e : j = i
 · subst e; rw [hx] at hy; cases hy; exact hl
 · exact hz j y (by omega) hy hn
theorem best_end {L : List KidD} {k : Nat} {bn : Int} (hnd : L.Nodup) (hk : k < L.length) (h : Best L k L.length bn) : ∃ (b : Nat) (x : KidD), bn = b ∧ L[b]? = some x ∧ (isort klt L)[k]? = some x := by
 rcases h with ⟨_, h2⟩ | ⟨b, z, h1, h2, h3, h4, h5⟩
 · obtain ⟨x, hx, hn⟩ := pick_left hnd hk
   obtain ⟨j, hj⟩ := List.getElem?_of_mem hx
   exact absurd (h2 j x (List.getElem?_eq_some_iff.1 hj).1 hj) hn
 · refine ⟨b, z, h1, h3, pick_next hnd (List.mem_of_getElem? h3) hk h4 fun y hy hn => ?_⟩
   obtain ⟨j, hj⟩ := List.getElem?_of_mem hy
   exact h5 j y (List.getElem?_eq_some_iff.1 hj).1 hj hn
theorem used_start (L : List KidD) : Used L 0 (List.replicate L.length false) := ⟨by simp, fun i x h => ⟨false, by
 have := (List.getElem?_eq_some_iff.1 h).1
 exact get_repl this, by simp⟩⟩
theorem used_next {L : List KidD} {k j : Nat} {us : List Bool} {x : KidD} (hnd : L.Nodup) (h : Used L k us) (hx : L[j]? = some x) (hk : (isort klt L)[k]? = some x) : Used L (k + 1) (us.set j true) := by
 refine ⟨by rw [List.length_set]; exact h.1, fun i y hy => ?_⟩
 have htk : (isort klt L).take (k + 1) = (isort klt L).take k ++ [x] := take_snoc' hk
 rw [htk]
 by_cases e : i = j
 · subst e
   rw [hx] at hy
   cases hy
   exact ⟨true, get_set_self (by rw [h.1]; exact (List.getElem?_eq_some_iff.1 hx).1), by simp⟩
 · obtain ⟨u, hu, hu2⟩ := h.2 i y hy
   refine ⟨u, by rw [get_set_ne (fun e' => e e'.symm)]; exact hu, ?_⟩
   rw [hu2]
   have hne : y ≠ x := fun e' => e (nodup_idx hnd (e' ▸ hy) hx)
   simp [hne]
theorem Tryz.infoBl : (Tryz.prog.info? 4).map (fun i => (i.zero, i.size, i.bytes)) = some (some (.bool false), 1, 1) := by kernel_rfl
theorem len_fB (x : Bool) : (fB x).length = 1 := rfl
theorem cells6a {w : World} {b off n cap i j : Nat} {L : List KidD} {x y : KidD} (h : ArgRow w fK (some ⟨b, off, none⟩) n cap L) (hx : L[i]? = some x) (hy : L[j]? = some y) : w.cell? ⟨b, off + i * 3, none⟩ = some (.int .i64 x.up) ∧ w.cell? ⟨b, off + i * 3 + 1, none⟩ = some (.string x.name) ∧ w.cell? ⟨b, off + i * 3 + 2, none⟩ = some (.int .i64 x.node) ∧ w.cell? ⟨b, off + j * 3, none⟩ = some (.int .i64 y.up) ∧ w.cell? ⟨b, off + j * 3 + 1, none⟩ = some (.string y.name) ∧ w.cell? ⟨b, off + j * 3 + 2, none⟩ = some (.int .i64 y.node) :=
 ⟨h.cell len_fK 0 rfl hx rfl, h.cell len_fK 1 rfl hx rfl, h.cell len_fK 2 rfl hx rfl, h.cell len_fK 0 rfl hy rfl, h.cell len_fK 1 rfl hy rfl, h.cell len_fK 2 rfl hy rfl⟩
theorem ref_sorted {w : World} {l : List HProp} {ao : Option Addr} {n cap : Nat} {L : List KidD} (hs : Sat w l) (hrow : ∀ w', Sat w' l → ArgRow w' fK ao n cap L) (hnd : L.Nodup) (hn : n ≤ 1000) :
   Calls Tryz.prog 105 #[.slice ao n cap] w fun e w' => ∃ v, e = .returned v ∧ Sat w' (rowT fK v 73 3 (isort klt L) :: l) ∧ Kp w w' := by
 obtain ⟨i0, hi, hz0, hz1, hz2⟩ := info_parts Tryz.infoBl
 obtain ⟨i1, hj, hy0, hy1, hy2⟩ := info_parts Tryz.infoKid
 have HN := Lib.hid (hrow w hs).len
 have HR := Lib.hid hrow
 have HD := Lib.hid hnd
 have HS := Lib.hid (show (isort klt L).length = n by rw [(isort_perm klt L).length_eq]; exact HN.out)
 have hn' : (n : Int) ≤ 1000 := by omega
 have hmk := fun W => run_make_rowN (P := Tryz.prog) 218 4 i0 (.bool false) Tryz.underlying218 hi hz0 .i64 .i64 n n (Nat.le_refl _) (by rw [hz2]; omega) (by omega) W
 rw [hz1] at hmk
 clear hrow hnd
 have h0 := (hs.alloc (.cells (madeCells #[.bool false] (n * 1)) 4)).tMade (f := fB) false rfl (by omega) rfl (by unfold maxLen; omega)
 have k0 := (Kp.refl w).alloc (.cells (madeCells #[.bool false] (n * 1)) 4)
 simp only [Nat.mul_one] at hmk h0 k0
 go_enter Tryz.func105, Tryz.ntmps105
 go_wp2_with fail
 generalize World.alloc _ _ = w1 at h0 k0 ⊢
 generalize w.heap.size = g at h0 ⊢
 have h0 := (h0.tNil fK 73 3)
 clear hmk
 go_loopw [3, 5, 6, 7, 8] (fun ov kv bv iv av wr => ∃ (k : Nat) (us : List Bool), k ≤ n ∧ kv = .int .i64 k ∧ Hid (Used L k us) ∧ Sat wr (rowT fK ov 73 3 ((isort klt L).take k) :: rowT fB (.slice (some ⟨g, 0, none⟩) n n) 4 1 us :: l) ∧ Kp w wr) (fun _ kv _ _ _ _ => n - (intOf kv).toNat)
 case atStart => exact ⟨0, _, by omega, rfl, Lib.hid (by rw [← HN.out]; have h := used_start L; exact h), h0, k0⟩
 case round =>
   clear h0 k0
   obtain ⟨k, us, hkn, rfl, HU, h1, k1⟩ := hrel
   by_cases hlt : k < n
   case neg =>
     obtain rfl : n = k := by omega
     have e1 : (isort klt L).take n = isort klt L := List.take_of_length_le (by rw [HS.out]; omega)
     rw [e1] at h1
     obtain ⟨oao, ocap, rfl⟩ := h1.tLen
     go_wp2_with fail
     go_ret
     exact ⟨_, rfl, (h1.pull 1).tail, k1⟩
   have k0' : (0 : Int) ≤ (k : Int) := by omega
   have k1' : (k : Int) < (n : Int) := by omega
   go_wp2_with fail
   go_loopw [6, 7, 8] (fun bv iv av wr => ∃ (i : Nat) (bn : Int), i ≤ n ∧ iv = .int .i64 i ∧ bv = .int .i64 bn ∧ Hid (Best L k i bn) ∧ Sat wr (rowT fK u3 73 3 ((isort klt L).take k) :: rowT fB (.slice (some ⟨g, 0, none⟩) n n) 4 1 us :: l) ∧ Kp w wr) (fun _ iv _ _ => n - (intOf iv).toNat)
   case atStart => exact ⟨0, -1, by omega, rfl, rfl, Lib.hid (.inl ⟨rfl, fun j x hj => absurd hj (Nat.not_lt_zero _)⟩), h1, k1⟩
   case round =>
     clear h1 k1
     obtain ⟨i, bn, hin, rfl, rfl, HB, h1, k1⟩ := hrel
     have har := HR.out _ h1.tail.tail
     by_cases hlti : i < n
     case neg =>
       obtain rfl : n = i := by omega
       obtain ⟨b, x, rfl, hb, hx⟩ := best_end HD.out (by rw [HN.out]; exact hlt) (by rw [HN.out]; exact HB.out)
       have hbl : b < n := by rw [← HN.out]; exact (List.getElem?_eq_some_iff.1 hb).1
       obtain ⟨ab, off, rfl⟩ := har.some hbl
       have x0 := har.cell len_fK 0 rfl hb rfl
       have x1 := har.cell len_fK 1 rfl hb rfl
       have x2 := har.cell len_fK 2 rfl hb rfl
       have hbk := World.block_lt_of_cell? _ _ x2
       rw [Nat.add_zero] at x0
       have b0' : (0 : Int) ≤ (b : Int) := by omega
       have b1' : (b : Int) < (n : Int) := by omega
       have HU2 := Lib.hid (used_next HD.out HU.out hb hx)
       have HX := Lib.hid hx
       obtain ⟨u0, hu0, _⟩ := HU.out.2 b x hb
       have gf := (h1.pull 1).rowFree (0 + b)
       have gl := (h1.pull 1).rowBlock
       have htk : (isort klt L).take (k + 1) = (isort klt L).take k ++ [x] := take_snoc' hx
       have g0 := (h1.pull 1).tCell len_fB b 0 hu0 rfl
       rw [Nat.mul_one, Nat.add_zero] at g0
       rw [Nat.zero_add] at gf g0
       have hus : us.length = n := by rw [HU.out.1]; exact HN.out
       have h2 : Sat (wr.setCell ⟨g, b, none⟩ (.bool true)) (rowT fB (.slice (some ⟨g, 0, none⟩) n n) 4 1 (us.set b true) :: rowT fK u3 73 3 ((isort klt L).take k) :: l) := by
         have := (h1.pull 1).tSetOne len_fB b true (by rw [hus]; exact hbl) (u := .bool true) rfl
         rwa [Nat.zero_add] at this
       have k2 := k1.setCell ⟨g, b, none⟩ (.bool true)
       have hkl : ((isort klt L).take k).length = k := by rw [List.length_take, HS.out]; omega
       obtain ⟨oao, ocap, ho⟩ := h1.tLen
       rw [hkl] at ho
       subst ho
       have HB2 := Lib.hid hb
       clear hb hx hu0 hus
       go_upto_region 17 with (fail)
       generalize World.setCell _ _ _ = w2 at h2 k2 ⊢
       clear x0 x1 x2 h1 k1 g0 gf gl
       have har := HR.out _ h2.tail.tail
       have x0 := har.cell len_fK 0 rfl HB2.out rfl
       have x1 := har.cell len_fK 1 rfl HB2.out rfl
       have x2 := har.cell len_fK 2 rfl HB2.out rfl
       rw [Nat.add_zero] at x0
       have hX := h2.alloc (.cells #[.int .i64 x.up, .string x.name, .int .i64 x.node] 73)
       have kX := k2.alloc (.cells #[.int .i64 x.up, .string x.name, .int .i64 x.node] 73)
       go_wp2_with (at_builtin; refine wpList_append_lit rfl (.tmp 45) (.tmp 50) 26 rfl 73 i1 _ 3 32 Tryz.underlying26 hj hy0 hy1 hy2 rfl (by decide) _ _ _ _ _ _ _ rfl (hX.pull 2) 1 1 rfl rfl rfl ?c3 ?c4 ?c5)
       case c3 => unfold maxLen; omega
       case c4 => omega
       case c5 =>
         intro v' w5 hs5 hk5
         rw [show k + 1 = ((isort klt L).take k).length + 1 by rw [hkl]] at hs5
         have h7 := Sat.tSnoc (f := fK) (x := x) hs5 rfl
         rw [← htk] at h7
         have h8 := (h7.pull 1).tail
         clear hs5 h7 hX h2 x0 x1 x2 htk hkl
         go_wp2_with fail
         go_roundw
         case rel => exact ⟨k + 1, _, by omega, by go_num, HU2, h8, kX.trans hk5⟩
         case measure => simp [intOf]; omega
     obtain ⟨x, hx⟩ : ∃ x, L[i]? = some x := ⟨_, List.getElem?_eq_getElem (by rw [HN.out]; exact hlti)⟩
     obtain ⟨ab, off, rfl⟩ := har.some hlti
     obtain ⟨u, hu, hu2⟩ := HU.out.2 i x hx
     have g0 := (h1.pull 1).tCell len_fB i 0 hu rfl
     rw [Nat.mul_one, Nat.add_zero, Nat.zero_add] at g0
     have i0' : (0 : Int) ≤ (i : Int) := by omega
     have i1' : (i : Int) < (n : Int) := by omega
     cases u with
     | true =>
       have HB2 := Lib.hid (best_used HB.out hx (hu2.1 rfl))
       clear hx hu hu2
       go_wp2_with fail
       go_roundw
       case rel => exact ⟨i + 1, bn, by omega, by go_num, rfl, HB2, h1, k1⟩
       case measure => simp [intOf]; omega
     | false =>
       have hxn : x ∉ (isort klt L).take k := fun h => by have := hu2.2 h; cases this
       rcases HB.out with ⟨rfl, hb2⟩ | ⟨b, z, rfl, hbi, hzb, hzn, hz⟩
       · have HB2 := Lib.hid (best_first hb2 hx hxn)
         clear hx hu hu2 hxn hb2
         go_wp2_with fail
         go_roundw
         case rel => exact ⟨i + 1, i, by omega, by go_num, rfl, HB2, h1, k1⟩
         case measure => simp [intOf]; omega
       · have x0 := har.cell len_fK 0 rfl hx rfl
         have x1 := har.cell len_fK 1 rfl hx rfl
         have x2 := har.cell len_fK 2 rfl hx rfl
         have z0 := har.cell len_fK 0 rfl hzb rfl
         have z1 := har.cell len_fK 1 rfl hzb rfl
         have z2 := har.cell len_fK 2 rfl hzb rfl
         rw [Nat.add_zero] at x0 z0
         have HBL := Lib.hid (fun hl => best_less (b := b) hz hx hxn hl)
         have HBK := Lib.hid (fun hl => best_keep hbi hzb hzn hz hx hl)
         have b0' : (0 : Int) ≤ (b : Int) := by omega
         have b1' : (b : Int) < (n : Int) := by omega
         have hbn : ¬ (b : Int) < 0 := by omega
         have HX := Lib.hid hx
         have HZ := Lib.hid hzb
         clear hx hu hu2 hxn hzb hzn hz
         go_upto_region 13 with (fail)
         go_region_held3 (fun w' => w'.cell? ⟨ab, off + i * 3, none⟩ = some (.int .i64 x.up) ∧ w'.cell? ⟨ab, off + i * 3 + 1, none⟩ = some (.string x.name) ∧ w'.cell? ⟨ab, off + i * 3 + 2, none⟩ = some (.int .i64 x.node) ∧ w'.cell? ⟨ab, off + b * 3, none⟩ = some (.int .i64 z.up) ∧ w'.cell? ⟨ab, off + b * 3 + 1, none⟩ = some (.string z.name) ∧ w'.cell? ⟨ab, off + b * 3 + 2, none⟩ = some (.int .i64 z.node)) (first | exact ⟨x0, x1, x2, z0, z1, z2⟩ | exact cells6a (HR.out _ h3.tail.tail) HX.out HZ.out | go_keep)
           ((go_at_call 130; refine (ref_less (h1.drewN 1) x z).mono ?_; rintro e w3 ⟨rfl, h3, k3⟩))
         clear x0 x1 x2 z0 z1 z2
         cases hl : klt x z with
         | true =>
           have HB2 := Lib.hid (HBL.out hl)
           clear hl
           go_wp2_with fail
           go_roundw
           case rel => exact ⟨i + 1, i, by omega, by go_num, rfl, HB2, h3, (k1.drewN 1).trans k3⟩
           case measure => simp [intOf]; omega
         | false =>
           have HB2 := Lib.hid (HBK.out hl)
           clear hl
           go_wp2_with fail
           go_roundw
           case rel => exact ⟨i + 1, b, by omega, by go_num, rfl, HB2, h3, (k1.drewN 1).trans k3⟩
           case measure => simp [intOf]; omega
end Go.Proofs.YtddglbjhhnipgaaGreatDoor

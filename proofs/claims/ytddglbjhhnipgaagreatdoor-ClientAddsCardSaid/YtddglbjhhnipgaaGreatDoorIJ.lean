import Derived.Test.YtddglbjhhnipgaaGreatDoorID
import Derived.Test.YtddglbjhhnipgaaGreatDoorIH
import Derived.Test.YtddglbjhhnipgaaGreatDoorHG
import Derived.Test.YtddglbjhhnipgaaGreatDoorIP
import Derived.Test.YtddglbjhhnipgaaGreatDoorII
import Derived.Test.YtddglbjhhnipgaaGreatDoorIK
import Derived.Deep.CutRange
namespace Go.Proofs.YtddglbjhhnipgaaGreatDoor
open Go Go.RowKit
set_option linter.unusedVariables false
set_option linter.unusedSimpArgs false
set_option maxRecDepth 100000
set_option maxHeartbeats 8000000
/-! ### which handles are in a list -/
theorem hd_eqlT (a : Hd) (W : World) : (binOp BinOp.eql 56 (.agg #[.int .i64 a.s, .int .i64 a.g]) (.agg #[.int .i64 a.s, .int .i64 a.g])).run Tryz.prog W = .ok (.bool true) W := by
 go_simp
 try simp
theorem hd_eqlF {a b : Hd} (h : a ≠ b) (W : World) : (binOp BinOp.eql 56 (.agg #[.int .i64 a.s, .int .i64 a.g]) (.agg #[.int .i64 b.s, .int .i64 b.g])).run Tryz.prog W = .ok (.bool false) W := by
 by_cases h1 : a.s = b.s
 · have h2 : a.g ≠ b.g := fun e => h (hd_ext h1 e)
   have e1 : (a.s == b.s) = true := by simp [h1]
   have e2 : (a.g == b.g) = false := by simp [h2]
   go_simp
   try simp [h2]
 · have e1 : (a.s == b.s) = false := by simp [h1]
   go_simp
   try simp [h1]
theorem hd_index {w : World} {l : List HProp} {v : Value} {hs' : List Hd} (h : Hd) (hs : Sat w (rowT fH v 56 2 hs' :: l)) (hn : hs'.length ≤ 100000000) :
   Calls Tryz.prog 185 #[v, .agg #[.int .i64 h.s, .int .i64 h.g]] w fun e w' => ∃ j : Int, e = .returned (.int .i64 j) ∧ (0 ≤ j ↔ h ∈ hs') ∧ Sat w' (rowT fH v 56 2 hs' :: l) ∧ Kp w w' := by
 obtain ⟨ao, cap, rfl⟩ := hs.tLen
 obtain ⟨n, hn0⟩ : ∃ n, n = hs'.length := ⟨_, rfl⟩
 rw [← hn0] at hs hn ⊢
 have HN := Lib.hid hn0
 have hn' : (n : Int) ≤ 100000000 := by omega
 clear hn0
 have hB := (hs.alloc (.cells #[.int .i64 h.s, .int .i64 h.g] 56)).swap
 have kB := (Kp.refl w).alloc (.cells #[.int .i64 h.s, .int .i64 h.g] 56)
 clear hs
 go_enter Tryz.func185, Tryz.ntmps185
 go_wp2_with fail
 generalize World.alloc _ _ = w1 at hB kB ⊢
 generalize w.heap.size = B at hB ⊢
 go_loopw [8] (fun iv wr => ∃ i : Nat, i ≤ n ∧ iv = .int .i64 i ∧ Hid (∀ x ∈ hs'.take i, x ≠ h) ∧ Sat wr (rowT fH (.slice ao n cap) 56 2 hs' :: own B (.cells #[.int .i64 h.s, .int .i64 h.g] 56 (0, 0)) :: l) ∧ Kp w wr) (fun iv _ => n - (intOf iv).toNat)
 case atStart => exact ⟨0, by omega, rfl, Lib.hid (by simp), hB, kB⟩
 case round =>
   obtain ⟨i, hin, rfl, hno, h2, k2⟩ := hrel
   clear hB kB
   by_cases hlt : i < n
   case neg =>
     obtain rfl : n = i := by omega
     go_wp2_with fail
     go_ret
     refine ⟨-1, rfl, ⟨fun h0 => by omega, fun h0 => ?_⟩, (h2.pull 1).tail, k2⟩
     exact ((hno.out h (by rw [HN.out, List.take_length]; exact h0)) rfl).elim
   obtain ⟨x, hx⟩ : ∃ x, hs'[i]? = some x := ⟨hs'[i]'(by rw [← HN.out]; exact hlt), by simp⟩
   rcases h2.tForm with ⟨hv, hp⟩ | ⟨g, off, cap', hv⟩
   · rw [hp] at hx; simp at hx
   simp only [Value.slice.injEq] at hv
   obtain ⟨rfl, -, rfl⟩ := hv
   have x0 := h2.tCell len_fH i 0 hx rfl
   have x1 := h2.tCell len_fH i 1 hx rfl
   rw [Nat.add_zero] at x0
   have b0 := (h2.pull 1).cell 0
   have b1 := (h2.pull 1).cell 1
   simp at b0 b1
   have i0' : (0 : Int) ≤ (i : Int) := by omega
   have i1' : (i : Int) < (n : Int) := by omega
   have HX := Lib.hid hx
   clear hx
   by_cases heq : h = x
   · subst heq
     have hq := hd_eqlT h
     go_upto_region 4 with (fail)
     go_quiet (fail)
     go_wp2_with fail
     go_ret
     exact ⟨i, rfl, ⟨fun _ => List.mem_of_getElem? HX.out, fun _ => by omega⟩, (h2.drewN _ |>.pull 1).tail, k2.drewN _⟩
   · have hq := hd_eqlF heq
     have HE := Lib.hid heq
     clear heq
     go_upto_region 4 with (fail)
     go_quiet (fail)
     clear x0 x1 b0 b1 hq
     go_wp2_with fail
     go_roundw
     case rel =>
       refine ⟨i + 1, by omega, by go_num, Lib.hid fun y hy => ?_, h2.drewN _, k2.drewN _⟩
       rw [List.take_add_one, HX.out] at hy
       rcases List.mem_append.1 hy with hy | hy
       · exact hno.out y hy
       · simp at hy
         subst hy
         exact fun e => HE.out e.symm
     case measure => simp [intOf]; omega
theorem hd_contains {w : World} {l : List HProp} {v : Value} {hs' : List Hd} (h : Hd) (hs : Sat w (rowT fH v 56 2 hs' :: l)) (hn : hs'.length ≤ 100000000) :
   Calls Tryz.prog 159 #[v, .agg #[.int .i64 h.s, .int .i64 h.g]] w fun e w' => e = .returned (.bool (decide (h ∈ hs'))) ∧ Sat w' (rowT fH v 56 2 hs' :: l) ∧ Kp w w' := by
 have hB := (hs.alloc (.cells #[.int .i64 h.s, .int .i64 h.g] 56)).swap
 have kB := (Kp.refl w).alloc (.cells #[.int .i64 h.s, .int .i64 h.g] 56)
 clear hs
 go_enter Tryz.func159, Tryz.ntmps159
 go_upto_region 1 with (fail)
 generalize World.alloc _ _ = w1 at hB kB ⊢
 generalize w.heap.size = B at hB ⊢
 have b0 := (hB.pull 1).cell 0
 have b1 := (hB.pull 1).cell 1
 simp at b0 b1
 have hi := hd_index h hB hn
 go_wp2_with fail
 refine hi.mono ?_
 rintro e w2 ⟨j, rfl, hj, h2, k2⟩
 have HJ := Lib.hid hj
 clear hi hj
 go_wp2_with fail
 go_ret
 have e : decide (h ∈ hs') = decide (0 ≤ j) := by simp [HJ.out]
 exact ⟨by rw [e]; rfl, (h2.pull 1).tail, kB.trans k2⟩
theorem Sat.rowOf {α : Type} {f : α → List Value} {w : World} {ao : Option Addr} {n cap : Nat} {e : TypeId} {size : Nat} {xs : List α} {l : List HProp} (hs : Sat w (rowT f (.slice ao n cap) e size xs :: l)) (hn : xs.length = n) : Sat w (row (.slice ao n cap) e size n (xs.flatMap f) :: l) := by
 unfold rowT at hs
 rw [hn] at hs
 exact hs
noncomputable def outH (hs os : List Hd) : List Hd := hs.filter fun h => decide (h ∉ os)
noncomputable def bothH (hs os : List Hd) : List Hd := hs.filter fun h => decide (h ∈ os)
theorem view_split {w : World} {l : List HProp} {v vo : Value} {hs' os : List Hd} (hs : Sat w (rowT fH v 56 2 hs' :: rowT fH vo 56 2 os :: l)) (hn : hs'.length ≤ 10000000) (hno : os.length ≤ 10000000) :
   Calls Tryz.prog 136 #[v, vo] w fun e w' => ∃ v1 v2, e = .returned (.tuple #[v1, v2]) ∧ Sat w' (rowT fH v1 56 2 (outH hs' os) :: rowT fH v2 56 2 (bothH hs' os) :: rowT fH v 56 2 hs' :: rowT fH vo 56 2 os :: l) ∧ Kp w w' := by
 obtain ⟨i1, hj, hy0, hy1, hy2⟩ := info_parts Tryz.infoHdK
 obtain ⟨ao, cap, rfl⟩ := hs.tLen
 obtain ⟨n, hn0⟩ : ∃ n, n = hs'.length := ⟨_, rfl⟩
 rw [← hn0] at hs hn ⊢
 have HN := Lib.hid hn0
 have hn' : (n : Int) ≤ 10000000 := by omega
 have hco := fun (W : World) (h : Hd) (l' : List HProp) (hW : Sat W (rowT fH vo 56 2 os :: l')) => hd_contains h hW (by omega)
 have HCO := Lib.hid hco
 clear hn0 hco
 go_enter Tryz.func136, Tryz.ntmps136
 go_wp2_with fail
 go_loopw [4, 5, 10] (fun ov bv iv wr => ∃ (i : Nat) (o1 b1 : Option Addr) (c1 c2 m1 m2 : Nat), i ≤ n ∧ iv = .int .i64 i ∧ ov = .slice o1 m1 c1 ∧ bv = .slice b1 m2 c2 ∧ m1 ≤ i ∧ m2 ≤ i ∧ Hid ((outH (hs'.take i) os).length = m1 ∧ (bothH (hs'.take i) os).length = m2) ∧ Sat wr (rowT fH (.slice o1 m1 c1) 56 2 (outH (hs'.take i) os) :: rowT fH (.slice b1 m2 c2) 56 2 (bothH (hs'.take i) os) :: rowT fH (.slice ao n cap) 56 2 hs' :: rowT fH vo 56 2 os :: l) ∧ Kp w wr) (fun _ _ iv _ => n - (intOf iv).toNat)
 case atStart => exact ⟨0, none, none, 0, 0, 0, 0, by omega, rfl, rfl, rfl, by omega, by omega, Lib.hid ⟨rfl, rfl⟩, (hs.tNil fH _ 2).tNil fH _ 2, Kp.refl w⟩
 case round =>
   obtain ⟨i, o1, b1, c1, c2, m1, m2, hin, rfl, rfl, rfl, hm1, hm2, hlen, h2, k2⟩ := hrel
   clear hs
   by_cases hlt : i < n
   case neg =>
     obtain rfl : n = i := by omega
     go_wp2_with fail
     refine bodyPost_ret (v := .tuple #[.slice o1 m1 c1, .slice b1 m2 c2]) (by simp [results, Tryz.results136, go_sem]) rfl ⟨_, _, rfl, ?_, k2⟩
     rw [HN.out, List.take_length] at h2
     rw [← HN.out] at h2
     exact h2
   obtain ⟨x, hx⟩ : ∃ x, hs'[i]? = some x := ⟨hs'[i]'(by rw [← HN.out]; exact hlt), by simp⟩
   rcases (h2.pull 2).tForm with ⟨hv, hp⟩ | ⟨g, off, cap', hv⟩
   · rw [hp] at hx; simp at hx
   simp only [Value.slice.injEq] at hv
   obtain ⟨rfl, -, rfl⟩ := hv
   have x0 := (h2.pull 2).tCell len_fH i 0 hx rfl
   have x1 := (h2.pull 2).tCell len_fH i 1 hx rfl
   rw [Nat.add_zero] at x0
   have i0' : (0 : Int) ≤ (i : Int) := by omega
   have i1' : (i : Int) < (n : Int) := by omega
   have e1 : outH (hs'.take (i + 1)) os = if x ∈ os then outH (hs'.take i) os else outH (hs'.take i) os ++ [x] := by
     unfold outH
     rw [List.take_add_one, hx, List.filter_append]
     by_cases hm : x ∈ os <;> simp [hm]
   have e2 : bothH (hs'.take (i + 1)) os = if x ∈ os then bothH (hs'.take i) os ++ [x] else bothH (hs'.take i) os := by
     unfold bothH
     rw [List.take_add_one, hx, List.filter_append]
     by_cases hm : x ∈ os <;> simp [hm]
   have E1 := Lib.hid e1
   have E2 := Lib.hid e2
   clear hx e1 e2
   have hX := h2.alloc (.cells #[.int .i64 x.s, .int .i64 x.g] 56)
   have kX := k2.alloc (.cells #[.int .i64 x.s, .int .i64 x.g] 56)
   go_upto_region 4 with (fail)
   generalize World.alloc _ _ = w3 at hX kX ⊢
   generalize wr.heap.size = B at hX ⊢
   clear h2 k2 x0 x1
   have z0 := (hX).cell 0
   have z1 := (hX).cell 1
   simp at z0 z1
   have hc := HCO.out _ x _ (hX.pull 4)
   go_wp2_with fail
   refine hc.mono ?_
   rintro e w4 ⟨rfl, h4, k4⟩
   have k4 := kX.trans k4
   have h4 := h4.push 4
   clear hc hX kX z0 z1
   have z0 := (h4).cell 0
   have z1 := (h4).cell 1
   simp at z0 z1
   by_cases hm : x ∈ os
   case pos =>
     rw [show decide (x ∈ os) = true by simp [hm]]
     have hL := h4.alloc (.cells #[.int .i64 x.s, .int .i64 x.g] 56)
     have kL := k4.alloc (.cells #[.int .i64 x.s, .int .i64 x.g] 56)
     have hR := Sat.rowOf (hL.pull 3) hlen.out.2
     clear hL
     go_wp2_with (at_builtin; refine wpList_append_lit rfl (.tmp 17) (.tmp 19) 92 rfl 56 i1 _ 2 16 Tryz.underlying92 hj hy0 hy1 hy2 rfl (by decide) _ _ _ _ _ _ _ rfl hR 1 1 rfl rfl rfl ?c3 ?c4 ?c5)
     case c3 => unfold maxLen; omega
     case c4 => omega
     case c5 =>
       intro v' w5 h5 k5
       rw [show m2 + 1 = (bothH (hs'.take i) os).length + 1 by rw [hlen.out.2]] at h5
       have h6 := Sat.tSnoc (f := fH) (x := x) h5 rfl
       obtain ⟨b', c', rfl⟩ := h6.tLen
       rw [show (bothH (hs'.take i) os ++ [x]).length = m2 + 1 by simp [hlen.out.2]] at h6 ⊢
       have k6 := kL.trans k5
       clear h5 hR
       go_wp2_with fail
       go_roundw
       case rel => exact ⟨i + 1, o1, b', c1, c', m1, m2 + 1, by omega, by go_num, rfl, rfl, by omega, by omega, Lib.hid (by rw [E1.out, E2.out, if_pos hm, if_pos hm]; exact ⟨hlen.out.1, by simp [hlen.out.2]⟩), by rw [E1.out, E2.out, if_pos hm, if_pos hm]; exact (((h6.pull 1).tail.pull 1).tail).swap, k6⟩
       case measure => simp [intOf]; omega
   case neg =>
     rw [show decide (x ∈ os) = false by simp [hm]]
     have hL := h4.alloc (.cells #[.int .i64 x.s, .int .i64 x.g] 56)
     have kL := k4.alloc (.cells #[.int .i64 x.s, .int .i64 x.g] 56)
     have hR := Sat.rowOf (hL.pull 2) hlen.out.1
     clear hL
     go_wp2_with (at_builtin; refine wpList_append_lit rfl (.tmp 21) (.tmp 23) 92 rfl 56 i1 _ 2 16 Tryz.underlying92 hj hy0 hy1 hy2 rfl (by decide) _ _ _ _ _ _ _ rfl hR 1 1 rfl rfl rfl ?c3 ?c4 ?c5)
     case c3 => unfold maxLen; omega
     case c4 => omega
     case c5 =>
       intro v' w5 h5 k5
       rw [show m1 + 1 = (outH (hs'.take i) os).length + 1 by rw [hlen.out.1]] at h5
       have h6 := Sat.tSnoc (f := fH) (x := x) h5 rfl
       obtain ⟨b', c', rfl⟩ := h6.tLen
       rw [show (outH (hs'.take i) os ++ [x]).length = m1 + 1 by simp [hlen.out.1]] at h6 ⊢
       have k6 := kL.trans k5
       clear h5 hR
       go_wp2_with fail
       go_roundw
       case rel => exact ⟨i + 1, b', b1, c', c2, m1 + 1, m2, by omega, by go_num, rfl, rfl, by omega, by omega, Lib.hid (by rw [E1.out, E2.out, if_neg hm, if_neg hm]; exact ⟨by simp [hlen.out.1], hlen.out.2⟩), by rw [E1.out, E2.out, if_neg hm, if_neg hm]; exact ((h6.pull 1).tail.pull 1).tail, k6⟩
       case measure => simp [intOf]; omega
theorem storeC {w : World} {s : Nat} {a b : Value} {ty : TypeId} {fr : List HProp} (hs : Sat w (own s (.cells #[a, b] ty (0, 0)) :: fr)) : w.cell? ⟨s, 0, none⟩ = some a ∧ w.cell? ⟨s, 1, none⟩ = some b := ⟨hs.cell 0, hs.cell 1⟩
theorem hdC2 {w : World} {s : Nat} {h : Hd} {ty : TypeId} {fr : List HProp} (hs : Sat w (own s (.cells #[.int .i64 h.s, .int .i64 h.g] ty (0, 0)) :: fr)) : w.cell? ⟨s, 0, none⟩ = some (.int .i64 h.s) ∧ w.cell? ⟨s, 1, none⟩ = some (.int .i64 h.g) := ⟨hs.cell 0, hs.cell 1⟩
theorem store_free {w : World} {l : List HProp} {s mk ms : Nat} {most : Int} {AK : List SlotK} {FK : List Int} {AS : List SlotS} {FS : List Int} {GK GS : Nat} {v1 v2 : Value} {ks ss : List Hd}
   (hs : Sat w (own s (.cells #[.pointer (some ⟨mk, 0, none⟩), .pointer (some ⟨ms, 0, none⟩)] 80 (0, 0)) :: mapK mk most AK FK :: mapS ms most AS FS :: rowT fH v1 56 2 ks :: rowT fH v2 56 2 ss :: l))
   (hWK : WfA AK FK GK) (hWS : WfA AS FS GS) (hK : ∀ h ∈ ks, ∃ x, InA AK h x) (hS : ∀ h ∈ ss, ∃ x, InA AS h x) (nK : ks.Nodup) (nS : ss.Nodup) (lK : AK.length ≤ 1000000) (lS : AS.length ≤ 1000000) (zK : ks.length ≤ 1000000) (zS : ss.length ≤ 1000000) :
   Calls Tryz.prog 135 #[.pointer (some ⟨s, 0, none⟩), v1, v2] w fun e w' => ∃ (n : Int) (AK' : List SlotK) (FK' : List Int) (AS' : List SlotS) (FS' : List Int), e = .returned (.int .i64 n) ∧ FreesA most AK FK GK ks AK' FK' ∧ FreesA most AS FS GS ss AS' FS' ∧ Sat w' (own s (.cells #[.pointer (some ⟨mk, 0, none⟩), .pointer (some ⟨ms, 0, none⟩)] 80 (0, 0)) :: mapK mk most AK' FK' :: mapS ms most AS' FS' :: rowT fH v1 56 2 ks :: rowT fH v2 56 2 ss :: l) ∧ Kp w w' := by
 obtain ⟨ao1, cap1, rfl⟩ := (hs.pull 3).tLen
 obtain ⟨ao2, cap2, rfl⟩ := (hs.pull 4).tLen
 obtain ⟨n1, hn1⟩ : ∃ n, n = ks.length := ⟨_, rfl⟩
 obtain ⟨n2, hn2⟩ : ∃ n, n = ss.length := ⟨_, rfl⟩
 rw [← hn1, ← hn2] at hs
 rw [← hn1, ← hn2]
 rw [← hn1] at zK
 rw [← hn2] at zS
 have HN1 := Lib.hid hn1
 have HN2 := Lib.hid hn2
 have HK := Lib.hid hK
 have HS := Lib.hid hS
 have NK := Lib.hid nK
 have NS := Lib.hid nS
 have h0 := FreesA.nil (most := most) hWK
 have h0' := FreesA.nil (most := most) hWS
 have H0 := Lib.hid h0
 have H0' := Lib.hid h0'
 clear hn1 hn2 hK hS nK nS hWK hWS h0 h0'
 go_enter Tryz.func135, Tryz.ntmps135
 go_wp2_with fail
 go_loopw [7, 14] (fun cv iv wr => ∃ (i : Nat) (A' : List SlotK) (F' : List Int), i ≤ n1 ∧ cv = .int .i64 i ∧ iv = .int .i64 i ∧ Hid (FreesA most AK FK GK (ks.take i) A' F') ∧ Sat wr (own s (.cells #[.pointer (some ⟨mk, 0, none⟩), .pointer (some ⟨ms, 0, none⟩)] 80 (0, 0)) :: mapK mk most A' F' :: mapS ms most AS FS :: rowT fH (.slice ao1 n1 cap1) 56 2 ks :: rowT fH (.slice ao2 n2 cap2) 56 2 ss :: l) ∧ Kp w wr) (fun _ iv _ => n1 - (intOf iv).toNat)
 case atStart => exact ⟨0, AK, FK, by omega, rfl, rfl, H0, hs, Kp.refl w⟩
 case round =>
   obtain ⟨i, A', F', hin, rfl, rfl, hfr, h2, k2⟩ := hrel
   clear hs
   by_cases hlt : i < n1
   case neg =>
     obtain rfl : n1 = i := by omega
     go_wp2_with fail
     go_loopw [7, 29] (fun cv iv wr => ∃ (i : Nat) (A2 : List SlotS) (F2 : List Int), i ≤ n2 ∧ cv = .int .i64 (n1 + i : Int) ∧ iv = .int .i64 i ∧ Hid (FreesA most AS FS GS (ss.take i) A2 F2) ∧ Sat wr (own s (.cells #[.pointer (some ⟨mk, 0, none⟩), .pointer (some ⟨ms, 0, none⟩)] 80 (0, 0)) :: mapK mk most A' F' :: mapS ms most A2 F2 :: rowT fH (.slice ao1 n1 cap1) 56 2 ks :: rowT fH (.slice ao2 n2 cap2) 56 2 ss :: l) ∧ Kp w wr) (fun _ iv _ => n2 - (intOf iv).toNat)
     case atStart => exact ⟨0, AS, FS, by omega, by simp, rfl, H0', h2, k2⟩
     case round =>
       have hfrK := hfr
       clear hfr
       obtain ⟨i, A', F', hin, rfl, rfl, hfr, h2, k2⟩ := hrel
       by_cases hlt : i < n2
       case neg =>
         obtain rfl : n2 = i := by omega
         go_wp2_with fail
         go_ret
         have e1 := hfrK.out
         have e2 := hfr.out
         rw [HN1.out, List.take_length] at e1
         rw [HN2.out, List.take_length] at e2
         exact ⟨_, _, _, _, _, rfl, e1, e2, h2, k2⟩
       obtain ⟨x, hx⟩ : ∃ x, ss[i]? = some x := ⟨ss[i]'(by rw [← HN2.out]; exact hlt), by simp⟩
       rcases (h2.pull 4).tForm with ⟨hv, hp⟩ | ⟨g, off, cap', hv⟩
       · rw [hp] at hx; simp at hx
       simp only [Value.slice.injEq] at hv
       obtain ⟨rfl, -, rfl⟩ := hv
       have x0 := (h2.pull 4).tCell len_fH i 0 hx rfl
       have x1 := (h2.pull 4).tCell len_fH i 1 hx rfl
       rw [Nat.add_zero] at x0
       have i0' : (0 : Int) ≤ (i : Int) := by omega
       have i1' : (i : Int) < (n2 : Int) := by omega
       have hi1 : IntKind.i64.wrap ((i : Int) + 1) = (i : Int) + 1 := by rw [IntWalk.i64_in _ (by omega)]
       obtain ⟨sx, hsx⟩ := HS.out x (List.mem_of_getElem? hx)
       have hxn := nodup_take NS.out hx
       have hin2 := hfr.out.has hsx hxn
       have hfl : F'.length ≤ 1048576 := by have := hfr.out.wf.few; have := hfr.out.len; omega
       have HX := Lib.hid hx
       have hX := h2.alloc (.cells #[.int .i64 x.s, .int .i64 x.g] 56)
       have kX := k2.alloc (.cells #[.int .i64 x.s, .int .i64 x.g] 56)
       go_upto_region 11 with (fail)
       generalize World.alloc _ _ = w3 at hX kX ⊢
       generalize wr.heap.size = B at hX ⊢
       clear h2 k2 x0 x1 hx
       have hfe := mapS_free (hX.pull 3).drew hfr.out.wf hin2 hfl
       have S0 := storeC (hX.pull 1)
       have S1 := hdC2 hX
       have HS0 := Lib.hid S0
       have HS1 := Lib.hid S1
       clear hsx hin2 hxn
       obtain ⟨s0, s1⟩ := S0
       obtain ⟨b0, b1⟩ := S1
       go_region_held3 (fun w' => (w'.cell? ⟨s, 0, none⟩ = some (.pointer (some ⟨mk, 0, none⟩)) ∧ w'.cell? ⟨s, 1, none⟩ = some (.pointer (some ⟨ms, 0, none⟩))) ∧ (w'.cell? ⟨B, 0, none⟩ = some (.int .i64 x.s) ∧ w'.cell? ⟨B, 1, none⟩ = some (.int .i64 x.g))) (first | with_reducible exact ⟨HS0.out, HS1.out⟩ | with_reducible exact SB | go_keep)
         ((go_at_call 158; (with_reducible refine hfe.mono ?_); rintro e w4 ⟨A2, F2, rfl, p1, p2, p3, h4, k4⟩; have SB := And.intro (storeC (h4.pull 2)) (hdC2 (h4.pull 1))))
       go_wp2_with fail
       go_roundw
       case rel => exact ⟨i + 1, A2, F2, by omega, by go_num, by go_num, Lib.hid (by rw [List.take_add_one, HX.out]; exact hfr.out.snoc p1 p2 p3), ((h4.pull 1).tail).push 2, kX.drew.trans k4⟩
       case measure => simp [intOf]; omega
   obtain ⟨x, hx⟩ : ∃ x, ks[i]? = some x := ⟨ks[i]'(by rw [← HN1.out]; exact hlt), by simp⟩
   rcases (h2.pull 3).tForm with ⟨hv, hp⟩ | ⟨g, off, cap', hv⟩
   · rw [hp] at hx; simp at hx
   simp only [Value.slice.injEq] at hv
   obtain ⟨rfl, -, rfl⟩ := hv
   have x0 := (h2.pull 3).tCell len_fH i 0 hx rfl
   have x1 := (h2.pull 3).tCell len_fH i 1 hx rfl
   rw [Nat.add_zero] at x0
   have i0' : (0 : Int) ≤ (i : Int) := by omega
   have i1' : (i : Int) < (n1 : Int) := by omega
   have hi1 : IntKind.i64.wrap ((i : Int) + 1) = (i : Int) + 1 := by rw [IntWalk.i64_in _ (by omega)]
   obtain ⟨sx, hsx⟩ := HK.out x (List.mem_of_getElem? hx)
   have hxn := nodup_take NK.out hx
   have hin2 := hfr.out.has hsx hxn
   have hfl : F'.length ≤ 1048576 := by have := hfr.out.wf.few; have := hfr.out.len; omega
   have HX := Lib.hid hx
   have hX := h2.alloc (.cells #[.int .i64 x.s, .int .i64 x.g] 56)
   have kX := k2.alloc (.cells #[.int .i64 x.s, .int .i64 x.g] 56)
   go_upto_region 5 with (fail)
   generalize World.alloc _ _ = w3 at hX kX ⊢
   generalize wr.heap.size = B at hX ⊢
   clear h2 k2 x0 x1 hx
   have hfe := mapK_free (hX.pull 2).drew hfr.out.wf hin2 hfl
   have S0 := storeC (hX.pull 1)
   have S1 := hdC2 hX
   have HS0 := Lib.hid S0
   have HS1 := Lib.hid S1
   clear hsx hin2 hxn
   obtain ⟨s0, s1⟩ := S0
   obtain ⟨b0, b1⟩ := S1
   go_region_held3 (fun w' => (w'.cell? ⟨s, 0, none⟩ = some (.pointer (some ⟨mk, 0, none⟩)) ∧ w'.cell? ⟨s, 1, none⟩ = some (.pointer (some ⟨ms, 0, none⟩))) ∧ (w'.cell? ⟨B, 0, none⟩ = some (.int .i64 x.s) ∧ w'.cell? ⟨B, 1, none⟩ = some (.int .i64 x.g))) (first | with_reducible exact ⟨HS0.out, HS1.out⟩ | with_reducible exact SB | go_keep)
     ((go_at_call 157; (with_reducible refine hfe.mono ?_); rintro e w4 ⟨A2, F2, rfl, p1, p2, p3, h4, k4⟩; have SB := And.intro (storeC (h4.pull 2)) (hdC2 (h4.pull 1))))
   go_wp2_with fail
   go_roundw
   case rel => exact ⟨i + 1, A2, F2, by omega, by go_num, by go_num, Lib.hid (by rw [List.take_add_one, HX.out]; exact hfr.out.snoc p1 p2 p3), ((h4.pull 1).tail).swap, kX.drew.trans k4⟩
   case measure => simp [intOf]; omega
/-! ### where a node is -/
def spD0 : SpD := ⟨false, 0, ⟨#[]⟩⟩
def aggSp (s : SpD) : Value := .agg #[.bool s.inn, .int .i64 s.up, .string s.nm]
theorem ansVS_getD (o : Option SpD) : ansVS o = aggSp (o.getD spD0) := by cases o <;> rfl
theorem view_kid {w : World} {l : List HProp} (n : Int) (s : SpD) (hs : Sat w l) :
   Calls Tryz.prog 114 #[.int .i64 n, aggSp s] w fun e w' => e = .returned (.agg #[.int .i64 s.up, .string s.nm, .int .i64 n]) ∧ Sat w' l ∧ Kp w w' := by
 have hB := (hs.alloc (.cells #[.bool s.inn, .int .i64 s.up, .string s.nm] 98)).alloc (.cells #[.int .i64 0, .string ⟨#[]⟩, .int .i64 0] 73)
 have kB := ((Kp.refl w).alloc (.cells #[.bool s.inn, .int .i64 s.up, .string s.nm] 98)).alloc (.cells #[.int .i64 0, .string ⟨#[]⟩, .int .i64 0] 73)
 simp only [World.size_alloc] at hB
 unfold aggSp
 go_enter Tryz.func114, Tryz.ntmps114
 go_upto_region 1 with (fail)
 generalize World.alloc _ _ = w1 at hB kB ⊢
 generalize w.heap.size + 1 = R at hB ⊢
 generalize w.heap.size = B at hB ⊢
 have r0 := (hB).cell 0
 have r1 := (hB).cell 1
 have r2 := (hB).cell 2
 have rf0 := (hB).free 0
 have rf1 := (hB).free 1
 have rf2 := (hB).free 2
 simp at r0 r1 r2
 have b1 := (hB.pull 1).cell 1
 have b2 := (hB.pull 1).cell 2
 simp at b1 b2
 have h2 := ((hB.set 0 (.int .i64 s.up)).set 1 (.string s.nm)).set 2 (.int .i64 n)
 have k2 := ((kB.setCell ⟨R, 0, none⟩ (.int .i64 s.up)).setCell ⟨R, 1, none⟩ (.string s.nm)).setCell ⟨R, 2, none⟩ (.int .i64 n)
 go_wp2_with fail
 exact bodyPost_ret (v := .agg #[.int .i64 s.up, .string s.nm, .int .i64 n]) (by simp [results, Tryz.results114, go_sem, r0, rf0, r1, rf1, r2, rf2]) rfl ⟨rfl, h2.tail.tail, k2⟩
theorem spA {w : World} {l : List HProp} {x : SpD} {A : HProp} (h : Sat w (A :: l)) : Sat (w.alloc (.cells #[.bool x.inn, .int .i64 x.up, .string x.nm] 98)) (own w.heap.size (.cells #[.bool x.inn, .int .i64 x.up, .string x.nm] 98 (0, 0)) :: A :: l) := h.alloc _
theorem spB {w : World} {l : List HProp} {x : SpD} {B : Nat} {A : HProp} (h : Sat w (A :: own B (.cells #[.bool false, .int .i64 0, .string ⟨#[]⟩] 98 (0, 0)) :: l)) :
   Sat (((w.setCell ⟨B, 0, none⟩ (.bool x.inn)).setCell ⟨B, 1, none⟩ (.int .i64 x.up)).setCell ⟨B, 2, none⟩ (.string x.nm)) (own B (.cells #[.bool x.inn, .int .i64 x.up, .string x.nm] 98 (0, 0)) :: A :: l) :=
 (((h.pull 1).set 0 (.bool x.inn)).set 1 (.int .i64 x.up)).set 2 (.string x.nm)
theorem spS {w : World} {s V : Nat} {a b : Value} {v : VerD} {ty tv : TypeId} {fr : List HProp} (hs : Sat w (own s (.cells #[a, b] ty (0, 0)) :: own V (.cells #[.int .i64 v.n, .int .i64 v.ks, .int .i64 v.kg, .int .i64 v.ss, .int .i64 v.sg] tv (0, 0)) :: fr)) : w.cell? ⟨s, 1, none⟩ = some b ∧ w.cell? ⟨V, 3, none⟩ = some (.int .i64 v.ss) ∧ w.cell? ⟨V, 4, none⟩ = some (.int .i64 v.sg) := ⟨hs.cell 1, (hs.pull 1).cell 3, (hs.pull 1).cell 4⟩
theorem store_spot {w : World} {l : List HProp} {s ms : Nat} {a : Value} {most : Int} {A : List SlotS} {F : List Int} {t : HTS} {v : VerD} (n : Int)
   (hs : Sat w (own s (.cells #[a, .pointer (some ⟨ms, 0, none⟩)] 80 (0, 0)) :: mapS ms most A F :: l)) (hR : RepO A t) (hv1 : v.ss = t.root.s) (hv2 : v.sg = t.root.g) :
   Calls Tryz.prog 44 #[.pointer (some ⟨s, 0, none⟩), aggV v, .int .i64 n] w fun e w' => e = .returned (aggSp ((getT cmpI n t).getD spD0)) ∧ Sat w' (own s (.cells #[a, .pointer (some ⟨ms, 0, none⟩)] 80 (0, 0)) :: mapS ms most A F :: l) ∧ Kp w w' := by
 have hB := (hs.alloc (.cells #[.int .i64 v.n, .int .i64 v.ks, .int .i64 v.kg, .int .i64 v.ss, .int .i64 v.sg] 58)).alloc (.cells #[.bool false, .int .i64 0, .string ⟨#[]⟩] 98)
 have kB := ((Kp.refl w).alloc (.cells #[.int .i64 v.n, .int .i64 v.ks, .int .i64 v.kg, .int .i64 v.ss, .int .i64 v.sg] 58)).alloc (.cells #[.bool false, .int .i64 0, .string ⟨#[]⟩] 98)
 simp only [World.size_alloc] at hB
 have ge := fun (W : World) (l' : List HProp) (hW : Sat W (mapS ms most A F :: l')) => mapS_get cmpI_ok n hW hR
 rw [← hv1, ← hv2] at ge
 generalize hx : getT cmpI n t = ox at ge
 rw [ansVS_getD] at ge
 generalize hy : ox.getD spD0 = x at ge
 have HY := Lib.hid (show (getT cmpI n t).getD spD0 = x by rw [hx]; exact hy)
 have hgoal : (getT cmpI n t).getD spD0 = x := HY.out
 generalize ox.isSome = ob at ge
 have GE := Lib.hid ge
 clear ge hs hR hv1 hv2 hx hy hgoal
 unfold aggV aggSp
 unfold aggSp at GE
 go_enter Tryz.func44, Tryz.ntmps44
 go_upto_region 1 with (fail)
 generalize World.alloc _ _ = w1 at hB kB ⊢
 generalize w.heap.size + 1 = R at hB ⊢
 generalize w.heap.size = V at hB ⊢
 have h2 := (hB.pull 2).push 1 |>.swap |>.swap
 have S0 := spS ((hB.pull 1).pull 2)
 have HS0 := Lib.hid S0
 obtain ⟨s0, s1, s2⟩ := S0
 have hsl := (hB.pull 2).lt
 have hvl := (hB.pull 1).lt
 have hp1 := GE.out _ _ (hB.pull 3).drew
 have hp2 := GE.out _ _ (((hB.pull 3).alloc (.cells #[.bool false, .int .i64 0, .string ⟨#[]⟩] 98)).swap.drew)
 clear h2
 go_cut [7] from 9 to 20 (fun bv wx => ∃ B : Nat, bv = .pointer (some ⟨B, 0, none⟩) ∧ Sat wx (own B (.cells #[.bool x.inn, .int .i64 x.up, .string x.nm] 98 (0, 0)) :: mapS ms most A F :: own R (.cells #[.bool false, .int .i64 0, .string ⟨#[]⟩] 98 (0, 0)) :: own V (.cells #[.int .i64 v.n, .int .i64 v.ks, .int .i64 v.kg, .int .i64 v.ss, .int .i64 v.sg] 58 (0, 0)) :: own s (.cells #[a, .pointer (some ⟨ms, 0, none⟩)] 80 (0, 0)) :: l) ∧ Kp w wx)
 case first =>
   go_region_held3 (fun w' => w'.cell? ⟨s, 1, none⟩ = some (.pointer (some ⟨ms, 0, none⟩)) ∧ w'.cell? ⟨V, 3, none⟩ = some (.int .i64 v.ss) ∧ w'.cell? ⟨V, 4, none⟩ = some (.int .i64 v.sg)) (first | with_reducible exact HS0.out | with_reducible exact SA | with_reducible exact SB | with_reducible exact SC | with_reducible exact SD | go_keep)
     ((first | (go_at_call 86; (with_reducible refine hp1.mono ?_); rintro e w7 ⟨rfl, h9, k9⟩; have SA := spS ((h9.pull 2).pull 3); have SB := spS (((h9.alloc (.cells #[.bool x.inn, .int .i64 x.up, .string x.nm] 98)).pull 3).pull 4)) | (go_at_call 86; (with_reducible refine hp2.mono ?_); rintro e w7 ⟨rfl, h9, k9⟩; have SC := spS ((h9.pull 3).pull 4); have q0 := (h9.pull 1).cell 0; have q1 := (h9.pull 1).cell 1; have q2 := (h9.pull 1).cell 2; have qf0 := (h9.pull 1).free 0; have qf1 := (h9.pull 1).free 1; have qf2 := (h9.pull 1).free 2; simp at q0 q1 q2; have SD := spS ((((((h9.pull 1).set 0 (.bool x.inn)).set 1 (.int .i64 x.up)).set 2 (.string x.nm)).pull 3).pull 4))))
   all_goals
     go_wp2_with fail
     go_meet
     case rel =>
       first
       | with_reducible exact ⟨_, rfl, spA h9, (kB.drew.trans k9).alloc _⟩
       | with_reducible exact ⟨_, rfl, spB h9, (((kB.alloc _).drew.trans k9).setCell _ _).setCell _ _ |>.setCell _ _⟩
 case rest =>
   obtain ⟨B, rfl, h3, k3⟩ := hcut
   clear hp1 hp2 HS0 s0 s1 s2 hsl hvl hB kB
   have b0 := (h3).cell 0
   have b1 := (h3).cell 1
   have b2 := (h3).cell 2
   simp at b0 b1 b2
   have r0 := (h3.pull 2).cell 0
   have r1 := (h3.pull 2).cell 1
   have r2 := (h3.pull 2).cell 2
   have rf0 := (h3.pull 2).free 0
   have rf1 := (h3.pull 2).free 1
   have rf2 := (h3.pull 2).free 2
   simp at r0 r1 r2
   have h4 := (((h3.pull 2).set 0 (.bool x.inn)).set 1 (.int .i64 x.up)).set 2 (.string x.nm)
   have k4 := ((k3.setCell ⟨R, 0, none⟩ (.bool x.inn)).setCell ⟨R, 1, none⟩ (.int .i64 x.up)).setCell ⟨R, 2, none⟩ (.string x.nm)
   go_wp2_with fail
   exact bodyPost_ret (v := .agg #[.bool x.inn, .int .i64 x.up, .string x.nm]) (by simp [results, Tryz.results44, go_sem, r0, rf0, r1, rf1, r2, rf2]) rfl ⟨rfl, ((h4.tail.tail.pull 1).tail).swap, k4⟩
end Go.Proofs.YtddglbjhhnipgaaGreatDoor

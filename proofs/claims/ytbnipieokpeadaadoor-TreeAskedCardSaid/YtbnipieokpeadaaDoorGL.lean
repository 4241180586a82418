import Derived.Test.YtbnipieokpeadaaDoorGD
import Derived.Test.YtbnipieokpeadaaDoorGH
import Derived.Test.YtbnipieokpeadaaDoorGI
namespace Go.Proofs.YtbnipieokpeadaaDoor
open Go Go.RowKit
set_option linter.unusedVariables false
set_option linter.unusedSimpArgs false

set_option maxRecDepth 100000 in
set_option maxHeartbeats 1000000 in
/-- What isn't an operation does nothing. -/
theorem tree_apply_not {W w : World} {l : List HProp} {t : Nat} {f : Int → Option Loc} {ds : List ChD} {o : OpD} (hs : Sat w (treeP t f ds :: oldH W :: l)) (hR : RightIn W o false) :
    Calls Tryd.prog 15 #[.pointer (some ⟨t, 0, none⟩), aggO o] w fun e w' => e = .returned (.bool false) ∧ Sat w' (treeP t f ds :: oldH W :: l) ∧ Kp w w' := by
  have HR := Lib.hid hR
  clear hR
  have hB := hs.alloc (.cells #[.int .i64 o.n, .int .i64 o.r, .int .i64 o.node, .int .i64 o.up, .string o.name] 33)
  have kB := (Kp.refl w).alloc (.cells #[.int .i64 o.n, .int .i64 o.r, .int .i64 o.node, .int .i64 o.up, .string o.name] 33)
  simp only [aggO]
  go_enter Tryd.func15, Tryd.ntmps15
  go_upto_region 1 with (fail)
  generalize World.alloc _ _ = w1 at hB kB ⊢
  generalize w.heap.size = B at hB ⊢
  have b0 := hB.cell 0
  have b1 := hB.cell 1
  have b2 := hB.cell 2
  have b3 := hB.cell 3
  have b4 := hB.cell 4
  simp at b0 b1 b2 b3 b4
  go_wp2_with fail
  refine (HR.out _ _ (hB.pull 2)).mono ?_
  rintro e w2 ⟨rfl, h2, k2⟩
  have h2 := h2.push 2
  go_wp2_with fail
  go_ret
  exact ⟨rfl, h2.tail, kB.trans k2⟩

set_option maxRecDepth 100000 in
set_option maxHeartbeats 2000000 in
theorem tree_apply2 {W w : World} {l : List HProp} {t : Nat} {f : Int → Option Loc} {ds : List ChD} {o : OpD} {r : Bool} (hs : Sat w (treeP t f ds :: oldH W :: l)) (hA : Acyc f) (hR : RightIn W o true) (hr : r = true ↔ known f o.up = true ∧ ¬ Anc f o.node o.up) (hlen : ds.length ≤ 1000) :
    Calls Tryd.prog 15 #[.pointer (some ⟨t, 0, none⟩), aggO o] w fun e w' => e = .returned (.bool r) ∧ Sat w' (treeP t (applied f o r) (ds ++ [⟨o.node, f o.node, newLoc f o r⟩]) :: oldH W :: l) ∧ Kp w w' := by
  obtain ⟨i0, hi, hz0, hz1, hz2⟩ := info_parts Tryd.infoCh
  have HR := Lib.hid hR
  have Hr := Lib.hid hr
  obtain ⟨k0, hk0⟩ := hA o.up
  have HK := Lib.hid hk0
  clear hR hr hk0
  have hB := hs.alloc (.cells #[.int .i64 o.n, .int .i64 o.r, .int .i64 o.node, .int .i64 o.up, .string o.name] 33)
  have kB := (Kp.refl w).alloc (.cells #[.int .i64 o.n, .int .i64 o.r, .int .i64 o.node, .int .i64 o.up, .string o.name] 33)
  simp only [aggO]
  go_enter Tryd.func15, Tryd.ntmps15
  go_upto_region 1 with (fail)
  generalize World.alloc _ _ = w1 at hB kB ⊢
  generalize w.heap.size = B at hB ⊢
  have b0 := hB.cell 0
  have b1 := hB.cell 1
  have b2 := hB.cell 2
  have b3 := hB.cell 3
  have b4 := hB.cell 4
  simp at b0 b1 b2 b3 b4
  go_wp2_with fail
  refine (HR.out _ _ (hB.pull 2)).mono ?_
  rintro e w2 ⟨rfl, h2, k2⟩
  have h2 := h2.push 2
  have k2 := kB.trans k2
  clear b0 b1 b2 b3 b4 hB kB hs
  go_upto_region 3 with (fail)
  go_cut [5] from 11 to 17 (fun v wx => ∃ A, v = .pointer (some ⟨A, 0, none⟩) ∧ Sat wx (own A (.cells (locCells (f o.node)).toArray 49 (0, 0)) :: own B (.cells #[.int .i64 o.n, .int .i64 o.r, .int .i64 o.node, .int .i64 o.up, .string o.name] 33 (0, 0)) :: treeP t f ds :: oldH W :: l) ∧ Kp w wx)
  case first =>
    obtain ⟨bm, v, hv⟩ := treeP_E (h2.pull 1)
    have c0 := hv.cell 0
    have b2 := h2.cell 2
    simp at c0 b2
    have hl := (look ((hv.pull 1).drew) o.node).1
    have hl2 := (look (((hv.pull 1).alloc' (.cells #[.bool false, .int .i64 0, .string ⟨#[]⟩] 49)).drew) o.node).1
    have hBl := h2.lt
    have htl := hv.lt
    have hA := (h2.alloc (.cells (locCells (f o.node)).toArray 49)).drew
    have kA := (k2.alloc (.cells (locCells (f o.node)).toArray 49)).drew
    cases hf : f o.node with
    | none =>
      rw [hf] at hl hl2 hA kA
      simp only [vL] at hl hl2
      go_region
      all_goals
        go_wp2_with fail
        go_meet
        case rel =>
          refine ⟨_, rfl, ?_, kA⟩
          rw [hf]
          exact hA
    | some s =>
      rw [hf] at hl hl2 hA kA
      simp only [vL] at hl hl2
      go_region
      all_goals
        go_wp2_with fail
        go_meet
        case rel =>
          refine ⟨_, rfl, ?_, kA⟩
          rw [hf]
          exact hA
  case rest =>
    clear h2 k2
    obtain ⟨A, rfl, h2, k2⟩ := hcut
    obtain ⟨q, z, nm, hx, hvl⟩ := locCells_form (f o.node)
    rw [hx] at h2
    have a0 := h2.cell 0
    have a1 := h2.cell 1
    have a2 := h2.cell 2
    have b2 := (h2.pull 1).cell 2
    simp at a0 a1 a2 b2
    have hC := h2.alloc (.cells #[.int .i64 o.node, .bool q, .int .i64 z, .string nm, .bool q, .int .i64 z, .string nm] 71)
    have kC := k2.alloc (.cells #[.int .i64 o.node, .bool q, .int .i64 z, .string nm, .bool q, .int .i64 z, .string nm] 71)
    go_upto_region 5 with (fail)
    generalize World.alloc _ _ = w3 at hC kC ⊢
    generalize wc.heap.size = C at hC ⊢
    clear h2 k2 a0 a1 a2 b2
    go_cut [7] from 23 to 35 (fun v wx => v = .bool r ∧ Sat wx (own C (.cells #[.int .i64 o.node, .bool q, .int .i64 z, .string nm, .bool q, .int .i64 z, .string nm] 71 (0, 0)) :: own A (.cells #[.bool q, .int .i64 z, .string nm] 49 (0, 0)) :: own B (.cells #[.int .i64 o.n, .int .i64 o.r, .int .i64 o.node, .int .i64 o.up, .string o.name] 33 (0, 0)) :: treeP t f ds :: oldH W :: l) ∧ Kp w wx)
    case first =>
      have b3 := (hC.pull 2).cell 3
      simp at b3
      go_wp2_with fail
      refine (tree_known (hC.pull 3)).mono ?_
      rintro e w4 ⟨rfl, h4, k4⟩
      cases hkn : known f o.up with
      | false =>
        have hr' : r = false := by
          cases r with
          | false => rfl
          | true => have := (Hr.out.1 rfl).1; rw [hkn] at this; cases this
        subst hr'
        go_wp2_with fail
        go_meet
        case rel => exact ⟨rfl, h4.push 3, kC.trans k4⟩
      | true =>
        have b2 := (h4.pull 3).cell 2
        have b3 := (h4.pull 3).cell 3
        simp at b2 b3
        have hab : (!r) = true ↔ known f o.up = true ∧ Anc f o.node o.up := by
          have := Hr.out
          rw [hkn] at this ⊢
          cases r <;> simp_all
        have hcall := tree_above h4 HK.out hab
        clear hab hkn
        go_wp2_with fail
        refine hcall.mono ?_
        rintro e w5 ⟨rfl, h5, k5⟩
        go_wp2_with fail
        go_meet
        case rel => exact ⟨by simp, h5.push 3, (kC.trans k4).trans k5⟩
    case rest =>
      clear hC kC
      obtain ⟨rfl, h4, k4⟩ := hcut
      cases r with
      | false =>
        have d0 := h4.cell 0
        have d1 := h4.cell 1
        have d2 := h4.cell 2
        have d3 := h4.cell 3
        have d4 := h4.cell 4
        have d5 := h4.cell 5
        have d6 := h4.cell 6
        have c2 := (h4.pull 2).cell 2
        simp at d0 d1 d2 d3 d4 d5 d6 c2
        have hset := tree_set (n := o.node) (s := f o.node) (h4.pull 3)
        rw [hvl, upd_self] at hset
        go_wp2_with fail
        refine hset.mono ?_
        rintro e w5 ⟨rfl, h5, k5⟩
        have k5 := k4.trans k5
        clear hset h4 k4 d0 d1 d2 d3 d4 d5 d6 c2
        obtain ⟨bm, v, hv⟩ := treeP_E h5
        obtain ⟨ao, cap, rfl⟩ := (hv.pull 2).tLen
        have t1 := hv.cell 1
        have f1 := hv.free 1
        have htl := hv.lt
        have hCl := (hv.pull 3).lt
        have d0 := (hv.pull 3).cell 0
        have d1 := (hv.pull 3).cell 1
        have d2 := (hv.pull 3).cell 2
        have d3 := (hv.pull 3).cell 3
        have d4 := (hv.pull 3).cell 4
        have d5 := (hv.pull 3).cell 5
        have d6 := (hv.pull 3).cell 6
        simp at t1 d0 d1 d2 d3 d4 d5 d6
        go_upto_region 9 with (fail)
        go_region_law ((refine step_append_lit (by rfl) (.tmp 53) (.tmp 55) 67 (by rfl) 71 i0 _ 7 72 Tryd.underlying67 hi hz0 hz1 hz2 (by rfl) (by omega) _ _ _ _ _ _ _ (by rfl) (Sat.pull 3 (hv.drew.alloc _)) 0 1 (by rfl) (by rfl) (by rfl) (by unfold maxLen; omega) (by omega) ?_; intro g off q' cap' w6 h6 k6; have e1 := (h6.pull 2).cell 1; have e2 := (h6.pull 2).free 1; simp at e1))
        all_goals
          go_wp2
          go_ret
          have h7 := (((h6.pull 2).set 1 (.slice (some ⟨g, off, none⟩) q' cap')).pull 2).tail
          have h8 := treeP_I ((Sat.tSnoc (f := fC) (x := ⟨o.node, f o.node, f o.node⟩) (h7.pull 1) (by simp only [fC, hx]; rfl)).push 2)
          exact ⟨rfl, (((h8.pull 1).tail.pull 1).tail.pull 1).tail, ((k5.drew.alloc _).trans k6).setCell _ _⟩
      | true =>
        have c2 := (h4.pull 2).cell 2
        have c3 := (h4.pull 2).cell 3
        have c4 := (h4.pull 2).cell 4
        have g4 := h4.cell 4
        have g5 := h4.cell 5
        have g6 := h4.cell 6
        have e4 := h4.free 4
        have e5 := h4.free 5
        have e6 := h4.free 6
        simp at c2 c3 c4 g4 g5 g6
        have h9 := ((h4.set 4 (.bool true)).set 5 (.int .i64 o.up)).set 6 (.string o.name)
        have k9 := ((k4.setCell ⟨C, 4, none⟩ (.bool true)).setCell ⟨C, 5, none⟩ (.int .i64 o.up)).setCell ⟨C, 6, none⟩ (.string o.name)
        go_upto_region 8 with (fail)
        generalize World.setCell _ _ _ = w4' at h9 k9 ⊢
        clear h4 k4 c2 c3 c4 g4 g5 g6 e4 e5 e6
        have h4 := h9
        have k4 := k9
        clear h9 k9
        have d0 := h4.cell 0
        have d1 := h4.cell 1
        have d2 := h4.cell 2
        have d3 := h4.cell 3
        have d4 := h4.cell 4
        have d5 := h4.cell 5
        have d6 := h4.cell 6
        have c2 := (h4.pull 2).cell 2
        simp at d0 d1 d2 d3 d4 d5 d6 c2
        have hset := tree_set (n := o.node) (s := some ⟨o.up, o.name⟩) (h4.pull 3)
        simp only [vL] at hset
        go_wp2_with fail
        refine hset.mono ?_
        rintro e w5 ⟨rfl, h5, k5⟩
        have k5 := k4.trans k5
        clear hset h4 k4 d0 d1 d2 d3 d4 d5 d6 c2
        obtain ⟨bm, v, hv⟩ := treeP_E h5
        obtain ⟨ao, cap, rfl⟩ := (hv.pull 2).tLen
        have t1 := hv.cell 1
        have f1 := hv.free 1
        have htl := hv.lt
        have hCl := (hv.pull 3).lt
        have d0 := (hv.pull 3).cell 0
        have d1 := (hv.pull 3).cell 1
        have d2 := (hv.pull 3).cell 2
        have d3 := (hv.pull 3).cell 3
        have d4 := (hv.pull 3).cell 4
        have d5 := (hv.pull 3).cell 5
        have d6 := (hv.pull 3).cell 6
        simp at t1 d0 d1 d2 d3 d4 d5 d6
        go_upto_region 9 with (fail)
        go_region_law ((refine step_append_lit (by rfl) (.tmp 53) (.tmp 55) 67 (by rfl) 71 i0 _ 7 72 Tryd.underlying67 hi hz0 hz1 hz2 (by rfl) (by omega) _ _ _ _ _ _ _ (by rfl) (Sat.pull 3 (hv.drew.alloc _)) 0 1 (by rfl) (by rfl) (by rfl) (by unfold maxLen; omega) (by omega) ?_; intro g off q' cap' w6 h6 k6; have e1 := (h6.pull 2).cell 1; have e2 := (h6.pull 2).free 1; simp at e1))
        all_goals
          go_wp2
          go_ret
          have h7 := (((h6.pull 2).set 1 (.slice (some ⟨g, off, none⟩) q' cap')).pull 2).tail
          have h8 := treeP_I ((Sat.tSnoc (f := fC) (x := ⟨o.node, f o.node, some ⟨o.up, o.name⟩⟩) (h7.pull 1) (by simp only [fC, hx]; rfl)).push 2)
          exact ⟨rfl, (((h8.pull 1).tail.pull 1).tail.pull 1).tail, ((k5.drew.alloc _).trans k6).setCell _ _⟩

end Go.Proofs.YtbnipieokpeadaaDoor

namespace Go.Proofs.YtbnipieokpeadaaDoor
open Go Go.RowKit
set_option linter.unusedVariables false
set_option linter.unusedSimpArgs false

noncomputable def above (f : Int → Option Loc) (a b : Int) : Bool := @decide (Anc f a b) (Classical.propDecidable _)
theorem above_iff {f : Int → Option Loc} {a b : Int} : above f a b = true ↔ Anc f a b := by
  unfold above
  exact @decide_eq_true_iff _ (Classical.propDecidable _)
/-- Does an operation put its node there? -/
noncomputable def can (f : Int → Option Loc) (o : OpD) : Bool := known f o.up && !above f o.node o.up
theorem can_iff {f : Int → Option Loc} {o : OpD} : can f o = true ↔ known f o.up = true ∧ ¬ Anc f o.node o.up := by
  unfold can
  rw [Bool.and_eq_true, Bool.not_eq_true', ← above_iff]
  simp
abbrev TreeD := (Int → Option Loc) × List ChD
noncomputable def stepT (s : TreeD) (o : OpD) : TreeD := if rightO o then (applied s.1 o (can s.1 o), s.2 ++ [⟨o.node, s.1 o.node, newLoc s.1 o (can s.1 o)⟩]) else s
noncomputable def growT (os : List OpD) : TreeD := os.foldl stepT ((fun _ => none), [])
theorem growT_snoc (os : List OpD) (o : OpD) : growT (os ++ [o]) = stepT (growT os) o := by simp [growT]
theorem grow_keeps {P : TreeD → Prop} (h0 : P ((fun _ => none), [])) (hs : ∀ s o, P s → P (stepT s o)) : ∀ os, P (growT os) := by
  have key : ∀ (os : List OpD) (s : TreeD), P s → P (os.foldl stepT s) := by
    intro os
    induction os with
    | nil => exact fun s h => h
    | cons o os ih => exact fun s h => ih _ (hs s o h)
  exact fun os => key os _ h0
theorem step_acyc {s : TreeD} (o : OpD) (h : Acyc s.1) : Acyc (stepT s o).1 := by
  unfold stepT
  cases rightO o with
  | false => exact h
  | true =>
    show Acyc (applied s.1 o (can s.1 o))
    cases hc : can s.1 o with
    | false => exact h
    | true => exact h.put (can_iff.1 hc).2
theorem grow_acyc (os : List OpD) : Acyc (growT os).1 := grow_keeps (P := fun s => Acyc s.1) acyc_empty (fun s o h => step_acyc o h) os
theorem step_len (s : TreeD) (o : OpD) : (stepT s o).2.length ≤ s.2.length + 1 := by
  unfold stepT
  cases rightO o with
  | false => exact Nat.le_succ _
  | true => simp
theorem grow_len (os : List OpD) : (growT os).2.length ≤ os.length := by
  have key : ∀ (os : List OpD) (s : TreeD), (os.foldl stepT s).2.length ≤ s.2.length + os.length := by
    intro os
    induction os with
    | nil => exact fun s => Nat.le_refl _
    | cons o os ih =>
      intro s
      have h1 := ih (stepT s o)
      have h2 := step_len s o
      simp only [List.foldl_cons, List.length_cons]
      omega
  have := key os ((fun _ => none), [])
  simpa [growT] using this

/-- Apply, of any operation. -/
theorem tree_apply_any {W w : World} {l : List HProp} {t : Nat} {s : TreeD} (hT : Lib.Utf8Tabs (validS_ren.g 3) (validS_ren.g 4) W) (o : OpD) (hs : Sat w (treeP t s.1 s.2 :: oldH W :: l)) (hA : Acyc s.1) (hz : o.name.size ≤ 1000) (hlen : s.2.length ≤ 1000) :
    Calls Tryd.prog 15 #[.pointer (some ⟨t, 0, none⟩), aggO o] w fun e w' => e = .returned (.bool (rightO o && can s.1 o)) ∧ Sat w' (treeP t (stepT s o).1 (stepT s o).2 :: oldH W :: l) ∧ Kp w w' := by
  have hR := op_right hT o hz
  unfold stepT
  cases h : rightO o with
  | false =>
    rw [h] at hR
    exact tree_apply_not hs hR
  | true =>
    rw [h] at hR
    exact tree_apply2 hs hA hR can_iff hlen

theorem op_at {w : World} {b off n cap k : Nat} {os : List OpD} {a : OpD} (h : ArgRow w fO (some ⟨b, off, none⟩) n cap os) (hk : os[k]? = some a) :
    w.cell? ⟨b, off + k * 5, none⟩ = some (.int .i64 a.n) ∧ w.cell? ⟨b, off + k * 5 + 1, none⟩ = some (.int .i64 a.r) ∧ w.cell? ⟨b, off + k * 5 + 2, none⟩ = some (.int .i64 a.node) ∧ w.cell? ⟨b, off + k * 5 + 3, none⟩ = some (.int .i64 a.up) ∧ w.cell? ⟨b, off + k * 5 + 4, none⟩ = some (.string a.name) := by
  have h0 := (List.getElem?_eq_some_iff.1 hk).1
  have hl := h.len
  obtain ⟨b', off', e, hc⟩ := h.cells (by omega)
  simp only [Option.some.injEq, Addr.mk.injEq, and_true] at e
  obtain ⟨rfl, rfl⟩ := e
  have key : ∀ j u, j < 5 → (fO a)[j]? = some u → w.cell? ⟨b, off + k * 5 + j, none⟩ = some u := fun j u hj hu => by
    have := hc (k * 5 + j) u (by rw [get_flat len_fO os k j a hk hj]; exact hu)
    rw [← Nat.add_assoc] at this; exact this
  exact ⟨key 0 _ (by omega) rfl, key 1 _ (by omega) rfl, key 2 _ (by omega) rfl, key 3 _ (by omega) rfl, key 4 _ (by omega) rfl⟩

set_option maxRecDepth 100000 in
set_option maxHeartbeats 2000000 in
theorem tree_grown_any {W w : World} {l : List HProp} {ao : Option Addr} {n cap : Nat} {os : List OpD} (hT : Lib.Utf8Tabs (validS_ren.g 3) (validS_ren.g 4) W) (hs : Sat w (oldH W :: l)) (hrow : ∀ w', Sat w' (oldH W :: l) → ArgRow w' fO ao n cap os) (hz : ∀ o ∈ os, o.name.size ≤ 1000) (hn : n ≤ 100) :
    Calls Tryd.prog 12 #[.slice ao n cap] w fun e w' => ∃ t, e = .returned (.pointer (some ⟨t, 0, none⟩)) ∧ Sat w' (treeP t (growT os).1 (growT os).2 :: oldH W :: l) ∧ Kp w w' := by
  have HT := Lib.hid hT
  have HR := Lib.hid hrow
  have HZ := Lib.hid hz
  have HN := Lib.hid (hrow w hs).len
  have hn' : (n : Int) ≤ 100 := by omega
  clear hT hrow hz
  go_enter Tryd.func12, Tryd.ntmps12
  go_wp2_with fail
  refine (tree_new hs).mono ?_
  rintro e w1 ⟨t, rfl, h1, k1⟩
  go_wp2_with fail
  go_loopw [4] (fun iv wr => ∃ i : Nat, i ≤ n ∧ iv = .int .i64 i ∧ Sat wr (treeP t (growT (os.take i)).1 (growT (os.take i)).2 :: oldH W :: l) ∧ Kp w wr) (fun iv _ => n - (intOf iv).toNat)
  case atStart => exact ⟨0, by omega, rfl, h1, k1⟩
  case round =>
    clear h1 k1
    obtain ⟨i, hin, rfl, h2, k2⟩ := hrel
    by_cases hlt : i < n
    case neg =>
      obtain rfl : n = i := by omega
      have e1 : os.take n = os := List.take_of_length_le (by rw [HN.out]; exact Nat.le_refl _)
      rw [e1] at h2
      go_wp2_with fail
      go_ret
      exact ⟨t, rfl, h2, k2⟩
    obtain ⟨o, ho⟩ : ∃ o, os[i]? = some o := ⟨_, List.getElem?_eq_getElem (by rw [HN.out]; exact hlt)⟩
    have har := HR.out _ h2.tail
    obtain ⟨b, off, rfl⟩ : ∃ b off, ao = some ⟨b, off, none⟩ := by
      obtain ⟨b, off, e, _⟩ := har.cells (by omega)
      exact ⟨b, off, e⟩
    obtain ⟨x0, x1, x2, x3, x4⟩ := op_at har ho
    have i0' : (0 : Int) ≤ (i : Int) := by omega
    have i1' : (i : Int) < (n : Int) := by omega
    have htk : os.take (i + 1) = os.take i ++ [o] := take_snoc' ho
    have hcall := tree_apply_any HT.out o h2 (grow_acyc _) (HZ.out o (List.mem_of_getElem? ho)) (Nat.le_trans (grow_len _) (by rw [List.length_take]; omega))
    rw [← growT_snoc, ← htk] at hcall
    generalize (rightO o && can (growT (os.take i)).1 o) = rb at hcall
    simp only [aggO] at hcall
    clear ho har htk
    go_wp2_with fail
    refine hcall.mono ?_
    rintro e w3 ⟨rfl, h3, k3⟩
    have k3 := k2.trans k3
    clear hcall h2 k2 x0 x1 x2 x3 x4
    go_wp2_with fail
    go_roundw
    case rel => exact ⟨i + 1, by omega, by go_num, h3, k3⟩
    case measure => simp [intOf]; omega

end Go.Proofs.YtbnipieokpeadaaDoor

namespace Go.Proofs.YtbnipieokpeadaaDoor
open Go Go.RowKit
set_option linter.unusedVariables false
set_option linter.unusedSimpArgs false

theorem snoc_ind {α : Type} {P : List α → Prop} (h0 : P []) (hs : ∀ l a, P l → P (l ++ [a])) (l : List α) : P l := by
  have key : ∀ r : List α, P r.reverse := by
    intro r
    induction r with
    | nil => exact h0
    | cons a r ih => rw [List.reverse_cons]; exact hs _ _ ih
  have := key l.reverse
  rwa [List.reverse_reverse] at this
theorem right_node {o : OpD} (h : rightO o = true) : 256 ≤ o.node := by
  unfold rightO nodeOk at h
  simp at h
  omega
/-- What a tree that was grown is like. -/
structure Grown (os : List OpD) (f : Int → Option Loc) : Prop where
  acyc : Acyc f
  dom : ∀ k l, f k = some l → 256 ≤ k ∧ ∃ o ∈ os, o.node = k
  closed : ∀ k l, f k = some l → known f l.up = true
theorem known_put {f : Int → Option Loc} {n k : Int} {s : Loc} (h : known f k = true) : known (upd f n (some s)) k = true := by
  unfold known at h ⊢
  by_cases e : k = n
  · subst e; rw [upd_same]; simp
  · rw [upd_other e]; exact h
theorem grow_grown : ∀ os, Grown os (growT os).1 := by
  intro os
  induction os using snoc_ind with
  | h0 => exact ⟨acyc_empty, fun k l h => (by cases h), fun k l h => (by cases h)⟩
  | hs os o ih =>
    refine ⟨grow_acyc _, ?_, ?_⟩
    · intro k l h
      rw [growT_snoc] at h
      unfold stepT at h
      cases hr : rightO o with
      | false =>
        rw [hr] at h
        obtain ⟨h1, o', h2, h3⟩ := ih.dom k l h
        exact ⟨h1, o', List.mem_append_left _ h2, h3⟩
      | true =>
        rw [hr] at h
        have h : applied (growT os).1 o (can (growT os).1 o) k = some l := h
        cases hc : can (growT os).1 o with
        | false =>
          rw [hc] at h
          obtain ⟨h1, o', h2, h3⟩ := ih.dom k l h
          exact ⟨h1, o', List.mem_append_left _ h2, h3⟩
        | true =>
          rw [hc] at h
          have h : upd (growT os).1 o.node (some ⟨o.up, o.name⟩) k = some l := h
          by_cases e : k = o.node
          · rw [e]
            exact ⟨right_node hr, o, by simp, rfl⟩
          · rw [upd_other e] at h
            obtain ⟨h1, o', h2, h3⟩ := ih.dom k l h
            exact ⟨h1, o', List.mem_append_left _ h2, h3⟩
    · intro k l h
      rw [growT_snoc] at h ⊢
      unfold stepT at h ⊢
      cases hr : rightO o with
      | false =>
        rw [hr] at h
        exact ih.closed k l h
      | true =>
        rw [hr] at h
        have h : applied (growT os).1 o (can (growT os).1 o) k = some l := h
        show known (applied (growT os).1 o (can (growT os).1 o)) l.up = true
        cases hc : can (growT os).1 o with
        | false =>
          rw [hc] at h
          exact ih.closed k l h
        | true =>
          rw [hc] at h
          have h : upd (growT os).1 o.node (some ⟨o.up, o.name⟩) k = some l := h
          show known (upd (growT os).1 o.node (some ⟨o.up, o.name⟩)) l.up = true
          by_cases e : k = o.node
          · subst e
            rw [upd_same] at h
            cases h
            exact known_put (can_iff.1 hc).1
          · rw [upd_other e] at h
            exact known_put (ih.closed k l h)

theorem nodup_sub : ∀ {l m : List Int}, l.Nodup → (∀ x ∈ l, x ∈ m) → l.length ≤ m.length
  | [], m, _, _ => Nat.zero_le _
  | x :: l, m, hn, hs => by
    have hx := hs x (List.mem_cons_self ..)
    have h1 := List.nodup_cons.1 hn
    have h2 := nodup_sub (l := l) (m := m.erase x) h1.2 (fun y hy => by
      have hne : y ≠ x := fun e => h1.1 (e ▸ hy)
      exact (List.mem_erase_of_ne hne).2 (hs y (List.mem_cons_of_mem _ hy)))
    have h3 := List.length_erase_of_mem hx
    have h4 : 0 < m.length := List.length_pos_of_mem hx
    rw [List.length_cons]
    omega
theorem Grown.len {os : List OpD} {f : Int → Option Loc} (h : Grown os f) {S : List (Int × Loc)} (hm : ∀ p ∈ S, f p.1 = some p.2) (hn : (S.map Prod.fst).Nodup) : S.length ≤ os.length := by
  have := nodup_sub (m := os.map OpD.node) hn (fun x hx => by
    obtain ⟨p, hp, rfl⟩ := List.mem_map.1 hx
    obtain ⟨_, o, ho, e⟩ := h.dom p.1 p.2 (hm p hp)
    exact List.mem_map.2 ⟨o, ho, e⟩)
  simpa using this
theorem Grown.bnd {os : List OpD} {f : Int → Option Loc} (h : Grown os f) (hl : os.length ≤ 1000) : Bnd f := fun S hm hn => Nat.le_trans (h.len hm hn) hl
theorem Grown.low {os : List OpD} {f : Int → Option Loc} (h : Grown os f) {k : Int} (hk : k < 256) : f k = none := by
  cases e : f k with
  | none => rfl
  | some l => have := (h.dom k l e).1; omega

/-- Each known node is below the root or below the trash, not both. -/
theorem root_trash {os : List OpD} {f : Int → Option Loc} (h : Grown os f) {b : Int} {k : Nat} (hr : Reach f b k) (hk : known f b = true) : (above f 0 b == above f 1 b) = false := by
  have h0 : f 0 = none := h.low (by omega)
  have h1 : f 1 = none := h.low (by omega)
  have key : ∀ (b : Int) (k : Nat), Reach f b k → known f b = true → (Anc f 0 b ∧ ¬ Anc f 1 b) ∨ (Anc f 1 b ∧ ¬ Anc f 0 b) := by
    intro b k hr
    induction hr with
    | @zero b e =>
      intro hk
      unfold known at hk
      rw [e] at hk
      simp at hk
      rcases hk with rfl | rfl
      · exact .inl ⟨.here, fun h => by have := h.stop h0; omega⟩
      · exact .inr ⟨.here, fun h => by have := h.stop h1; omega⟩
    | @succ b l k e _ ih =>
      intro _
      have hb := (h.dom b l e).1
      rw [Anc.step e (by omega : (0 : Int) ≠ b), Anc.step e (by omega : (1 : Int) ≠ b)]
      exact ih (h.closed b l e)
  rcases key b k hr hk with ⟨a, c⟩ | ⟨a, c⟩
  · rw [above_iff.2 a]
    cases e : above f 1 b with
    | false => rfl
    | true => exact absurd (above_iff.1 e) c
  · rw [above_iff.2 a]
    cases e : above f 0 b with
    | false => rfl
    | true => exact absurd (above_iff.1 e) c

/-- No way up is longer than there are nodes. -/
theorem reach_le {f : Int → Option Loc} {b : Int} {k : Nat} (hr : Reach f b k) {S : List (Int × Loc)} (hS : Enum f S) : k ≤ S.length := by
  have key : ∃ L : List Int, L.length = k ∧ L.Nodup ∧ ∀ x ∈ L, f x ≠ none ∧ ∃ j, j ≤ k ∧ Reach f x j := by
    induction hr with
    | zero _ => exact ⟨[], rfl, List.nodup_nil, fun x hx => by cases hx⟩
    | @succ b l k e hr ih =>
      obtain ⟨L, h1, h2, h3⟩ := ih
      refine ⟨b :: L, by rw [List.length_cons, h1], List.nodup_cons.2 ⟨fun hb => ?_, h2⟩, fun x hx => ?_⟩
      · obtain ⟨_, j, hj, hrj⟩ := h3 b hb
        have := hrj.uniq (.succ e hr)
        omega
      · rcases List.mem_cons.1 hx with rfl | hx
        · exact ⟨by rw [e]; simp, k + 1, Nat.le_refl _, .succ e hr⟩
        · obtain ⟨h4, j, hj, hrj⟩ := h3 x hx
          exact ⟨h4, j, by omega, hrj⟩
  obtain ⟨L, h1, h2, h3⟩ := key
  have := nodup_sub (m := S.map Prod.fst) h2 (fun x hx => by
    cases e : f x with
    | none => exact absurd e (h3 x hx).1
    | some s => exact List.mem_map.2 ⟨(x, s), hS.all x s e, rfl⟩)
  rw [List.length_map] at this
  omega

theorem all_known {f : Int → Option Loc} {S : List (Int × Loc)} {k : KidD} (hS : Enum f S) (hk : k ∈ isort klt (kidsOf (fun _ => true) S)) : ∃ l, f k.node = some l := by
  have h1 := (isort_perm klt _).mem_iff.1 hk
  unfold kidsOf at h1
  obtain ⟨p, hp, rfl⟩ := List.mem_map.1 h1
  exact ⟨p.2, hS.mem p (List.mem_filter.1 hp).1⟩
theorem all_nodup {f : Int → Option Loc} {S : List (Int × Loc)} (hS : Enum f S) : ((isort klt (kidsOf (fun _ => true) S)).map KidD.node).Nodup := by
  have h1 : ((kidsOf (fun _ => true) S).map KidD.node).Nodup := by
    unfold kidsOf
    rw [List.map_map]
    have h2 : S.filter (fun _ => true) = S := List.filter_eq_self.2 (fun _ _ => rfl)
    rw [h2]
    exact hS.nodup
  exact (((isort_perm klt _).map KidD.node).nodup_iff).2 h1

end Go.Proofs.YtbnipieokpeadaaDoor

import Derived.Test.YtbnipieokpeadaaDoorTree4
import Derived.Test.YtbnipieokpeadaaDoorUndo
namespace Go.Proofs.YtbnipieokpeadaaDoor
open Go Go.RowKit
set_option linter.unusedVariables false
set_option linter.unusedSimpArgs false

noncomputable def above (f : Int → Option Loc) (a b : Int) : Bool := @decide (Anc f a b) (Classical.propDecidable _)
theorem above_iff {f : Int → Option Loc} {a b : Int} : above f a b = true ↔ Anc f a b := by
  unfold above
  exact @decide_eq_true_iff _ (Classical.propDecidable _)
/-- Does an operation put its node there? -/
noncomputable def can (f : Int → Option Loc) (o : OpD) : Bool := known f o.up && !above f o.node o.up
theorem can_iff {f : Int → Option Loc} {o : OpD} : can f o = true ↔ known f o.up = true ∧ ¬ Anc f o.node o.up := by
  unfold can
  rw [Bool.and_eq_true, Bool.not_eq_true', ← above_iff]
  simp
abbrev TreeD := (Int → Option Loc) × List ChD
noncomputable def stepT (s : TreeD) (o : OpD) : TreeD := if rightO o then (applied s.1 o (can s.1 o), s.2 ++ [⟨o.node, s.1 o.node, newLoc s.1 o (can s.1 o)⟩]) else s
noncomputable def growT (os : List OpD) : TreeD := os.foldl stepT ((fun _ => none), [])
theorem growT_snoc (os : List OpD) (o : OpD) : growT (os ++ [o]) = stepT (growT os) o := by simp [growT]
theorem grow_keeps {P : TreeD → Prop} (h0 : P ((fun _ => none), [])) (hs : ∀ s o, P s → P (stepT s o)) : ∀ os, P (growT os) := by
  have key : ∀ (os : List OpD) (s : TreeD), P s → P (os.foldl stepT s) := by
    intro os
    induction os with
    | nil => exact fun s h => h
    | cons o os ih => exact fun s h => ih _ (hs s o h)
  exact fun os => key os _ h0
theorem step_acyc {s : TreeD} (o : OpD) (h : Acyc s.1) : Acyc (stepT s o).1 := by
  unfold stepT
  cases rightO o with
  | false => exact h
  | true =>
    show Acyc (applied s.1 o (can s.1 o))
    cases hc : can s.1 o with
    | false => exact h
    | true => exact h.put (can_iff.1 hc).2
theorem grow_acyc (os : List OpD) : Acyc (growT os).1 := grow_keeps (P := fun s => Acyc s.1) acyc_empty (fun s o h => step_acyc o h) os
theorem step_len (s : TreeD) (o : OpD) : (stepT s o).2.length ≤ s.2.length + 1 := by
  unfold stepT
  cases rightO o with
  | false => exact Nat.le_succ _
  | true => simp
theorem grow_len (os : List OpD) : (growT os).2.length ≤ os.length := by
  have key : ∀ (os : List OpD) (s : TreeD), (os.foldl stepT s).2.length ≤ s.2.length + os.length := by
    intro os
    induction os with
    | nil => exact fun s => Nat.le_refl _
    | cons o os ih =>
      intro s
      have h1 := ih (stepT s o)
      have h2 := step_len s o
      simp only [List.foldl_cons, List.length_cons]
      omega
  have := key os ((fun _ => none), [])
  simpa [growT] using this

/-- Apply, of any operation. -/
theorem tree_apply_any {W w : World} {l : List HProp} {t : Nat} {s : TreeD} (hT : Lib.Utf8Tabs (validS_ren.g 3) (validS_ren.g 4) W) (o : OpD) (hs : Sat w (treeP t s.1 s.2 :: oldH W :: l)) (hA : Acyc s.1) (hz : o.name.size ≤ 1000) (hlen : s.2.length ≤ 1000) :
    Calls Tryd.prog 15 #[.pointer (some ⟨t, 0, none⟩), aggO o] w fun e w' => e = .returned (.bool (rightO o && can s.1 o)) ∧ Sat w' (treeP t (stepT s o).1 (stepT s o).2 :: oldH W :: l) ∧ Kp w w' := by
  have hR := op_right hT o hz
  unfold stepT
  cases h : rightO o with
  | false =>
    rw [h] at hR
    exact tree_apply_not hs hR
  | true =>
    rw [h] at hR
    exact tree_apply2 hs hA hR can_iff hlen

theorem op_at {w : World} {b off n cap k : Nat} {os : List OpD} {a : OpD} (h : ArgRow w fO (some ⟨b, off, none⟩) n cap os) (hk : os[k]? = some a) :
    w.cell? ⟨b, off + k * 5, none⟩ = some (.int .i64 a.n) ∧ w.cell? ⟨b, off + k * 5 + 1, none⟩ = some (.int .i64 a.r) ∧ w.cell? ⟨b, off + k * 5 + 2, none⟩ = some (.int .i64 a.node) ∧ w.cell? ⟨b, off + k * 5 + 3, none⟩ = some (.int .i64 a.up) ∧ w.cell? ⟨b, off + k * 5 + 4, none⟩ = some (.string a.name) := by
  have h0 := (List.getElem?_eq_some_iff.1 hk).1
  have hl := h.len
  obtain ⟨b', off', e, hc⟩ := h.cells (by omega)
  simp only [Option.some.injEq, Addr.mk.injEq, and_true] at e
  obtain ⟨rfl, rfl⟩ := e
  have key : ∀ j u, j < 5 → (fO a)[j]? = some u → w.cell? ⟨b, off + k * 5 + j, none⟩ = some u := fun j u hj hu => by
    have := hc (k * 5 + j) u (by rw [get_flat len_fO os k j a hk hj]; exact hu)
    rw [← Nat.add_assoc] at this; exact this
  exact ⟨key 0 _ (by omega) rfl, key 1 _ (by omega) rfl, key 2 _ (by omega) rfl, key 3 _ (by omega) rfl, key 4 _ (by omega) rfl⟩

set_option maxRecDepth 100000 in
set_option maxHeartbeats 2000000 in
theorem tree_grown_any {W w : World} {l : List HProp} {ao : Option Addr} {n cap : Nat} {os : List OpD} (hT : Lib.Utf8Tabs (validS_ren.g 3) (validS_ren.g 4) W) (hs : Sat w (oldH W :: l)) (hrow : ∀ w', Sat w' (oldH W :: l) → ArgRow w' fO ao n cap os) (hz : ∀ o ∈ os, o.name.size ≤ 1000) (hn : n ≤ 100) :
    Calls Tryd.prog 12 #[.slice ao n cap] w fun e w' => ∃ t, e = .returned (.pointer (some ⟨t, 0, none⟩)) ∧ Sat w' (treeP t (growT os).1 (growT os).2 :: oldH W :: l) ∧ Kp w w' := by
  have HT := Lib.hid hT
  have HR := Lib.hid hrow
  have HZ := Lib.hid hz
  have HN := Lib.hid (hrow w hs).len
  have hn' : (n : Int) ≤ 100 := by omega
  clear hT hrow hz
  go_enter Tryd.func12, Tryd.ntmps12
  go_wp2_with fail
  refine (tree_new hs).mono ?_
  rintro e w1 ⟨t, rfl, h1, k1⟩
  go_wp2_with fail
  go_loopw [4] (fun iv wr => ∃ i : Nat, i ≤ n ∧ iv = .int .i64 i ∧ Sat wr (treeP t (growT (os.take i)).1 (growT (os.take i)).2 :: oldH W :: l) ∧ Kp w wr) (fun iv _ => n - (intOf iv).toNat)
  case atStart => exact ⟨0, by omega, rfl, h1, k1⟩
  case round =>
    clear h1 k1
    obtain ⟨i, hin, rfl, h2, k2⟩ := hrel
    by_cases hlt : i < n
    case neg =>
      obtain rfl : n = i := by omega
      have e1 : os.take n = os := List.take_of_length_le (by rw [HN.out]; exact Nat.le_refl _)
      rw [e1] at h2
      go_wp2_with fail
      go_ret
      exact ⟨t, rfl, h2, k2⟩
    obtain ⟨o, ho⟩ : ∃ o, os[i]? = some o := ⟨_, List.getElem?_eq_getElem (by rw [HN.out]; exact hlt)⟩
    have har := HR.out _ h2.tail
    obtain ⟨b, off, rfl⟩ : ∃ b off, ao = some ⟨b, off, none⟩ := by
      obtain ⟨b, off, e, _⟩ := har.cells (by omega)
      exact ⟨b, off, e⟩
    obtain ⟨x0, x1, x2, x3, x4⟩ := op_at har ho
    have i0' : (0 : Int) ≤ (i : Int) := by omega
    have i1' : (i : Int) < (n : Int) := by omega
    have htk : os.take (i + 1) = os.take i ++ [o] := take_snoc' ho
    have hcall := tree_apply_any HT.out o h2 (grow_acyc _) (HZ.out o (List.mem_of_getElem? ho)) (Nat.le_trans (grow_len _) (by rw [List.length_take]; omega))
    rw [← growT_snoc, ← htk] at hcall
    generalize (rightO o && can (growT (os.take i)).1 o) = rb at hcall
    simp only [aggO] at hcall
    clear ho har htk
    go_wp2_with fail
    refine hcall.mono ?_
    rintro e w3 ⟨rfl, h3, k3⟩
    have k3 := k2.trans k3
    clear hcall h2 k2 x0 x1 x2 x3 x4
    go_wp2_with fail
    go_roundw
    case rel => exact ⟨i + 1, by omega, by go_num, h3, k3⟩
    case measure => simp [intOf]; omega

end Go.Proofs.YtbnipieokpeadaaDoor

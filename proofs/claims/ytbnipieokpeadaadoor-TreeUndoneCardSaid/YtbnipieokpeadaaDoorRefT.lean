import Derived.Test.YtbnipieokpeadaaDoorPool
import Derived.Test.YtbnipieokpeadaaDoorPick
import Derived.Test.YtbnipieokpeadaaDoorOrd
namespace Go.Proofs.YtbnipieokpeadaaDoor
open Go Go.RowKit
set_option linter.unusedVariables false
set_option linter.unusedSimpArgs false

/-! ### the document's tree: a list of nodes -/

structure EnumK (f : Int → Option Loc) (L : List KidD) : Prop where
  mem : ∀ k ∈ L, f k.node = some ⟨k.up, k.name⟩
  nodup : (L.map KidD.node).Nodup
  all : ∀ n l, f n = some l → (⟨l.up, l.name, n⟩ : KidD) ∈ L
theorem enumk_nil : EnumK (fun _ => none) [] := ⟨fun k h => (by cases h), List.nodup_nil, fun n l h => (by cases h)⟩

theorem ref_at_none {w : World} {ao : Option Addr} {n cap : Nat} {L : List KidD} {f : Int → Option Loc} {x : Int} (ha : ArgRow w fK ao n cap L) (hE : EnumK f L) (hf : f x = none) (hn : n ≤ 1000) :
    Calls Tryd.prog 47 #[.slice ao n cap, .int .i64 x] w fun e w' => e = .returned (.int .i64 (-1)) ∧ w = w' := by
  have HL := Lib.hid ha.len
  have hn' : (n : Int) ≤ 1000 := by omega
  go_enter Tryd.func47, Tryd.ntmps47
  go_wp2_with fail
  go_loop [5] (fun iv => ∃ i : Nat, i ≤ n ∧ iv = .int .i64 i) (fun iv => n - (intOf iv).toNat)
  case atStart => exact ⟨0, by omega, rfl⟩
  case round =>
    obtain ⟨i, hin, rfl⟩ := hrel
    by_cases hlt : i < n
    case neg =>
      obtain rfl : n = i := by omega
      go_wp2_with fail
      go_ret
      exact ⟨rfl, rfl⟩
    obtain ⟨y, hy⟩ : ∃ y, L[i]? = some y := ⟨_, List.getElem?_eq_getElem (by rw [HL.out]; exact hlt)⟩
    obtain ⟨b, off, rfl⟩ := ha.some hlt
    have y2 := ha.cell len_fK 2 rfl hy rfl
    have hne : (y.node == x) = false := by
      rw [beq_eq_false_iff_ne]
      intro e
      have := hE.mem y (List.mem_of_getElem? hy)
      rw [e, hf] at this
      cases this
    have i0' : (0 : Int) ≤ (i : Int) := by omega
    have i1' : (i : Int) < (n : Int) := by omega
    clear hy
    go_wp2_with fail
    go_round
    case rel => exact ⟨i + 1, by omega, by go_num⟩
    case measure => simp [intOf]; omega

theorem ref_at_some {w : World} {ao : Option Addr} {n cap : Nat} {L : List KidD} {f : Int → Option Loc} {x : Int} {l : Loc} (ha : ArgRow w fK ao n cap L) (hE : EnumK f L) (hf : f x = some l) (hn : n ≤ 1000) :
    Calls Tryd.prog 47 #[.slice ao n cap, .int .i64 x] w fun e w' => ∃ i : Nat, e = .returned (.int .i64 i) ∧ L[i]? = some ⟨l.up, l.name, x⟩ ∧ w = w' := by
  obtain ⟨j, hj⟩ := List.getElem?_of_mem (hE.all x l hf)
  have hjl := (List.getElem?_eq_some_iff.1 hj).1
  rw [ha.len] at hjl
  have HL := Lib.hid ha.len
  have HJ := Lib.hid hj
  have hn' : (n : Int) ≤ 1000 := by omega
  clear hj
  go_enter Tryd.func47, Tryd.ntmps47
  go_wp2_with fail
  go_loop [5] (fun iv => ∃ i : Nat, i ≤ j ∧ iv = .int .i64 i) (fun iv => n - (intOf iv).toNat)
  case atStart => exact ⟨0, by omega, rfl⟩
  case round =>
    obtain ⟨i, hin, rfl⟩ := hrel
    obtain ⟨y, hy⟩ : ∃ y, L[i]? = some y := ⟨_, List.getElem?_eq_getElem (by rw [HL.out]; omega)⟩
    obtain ⟨b, off, rfl⟩ := ha.some (i := i) (by omega)
    have y2 := ha.cell len_fK 2 rfl hy rfl
    have i0' : (0 : Int) ≤ (i : Int) := by omega
    have i1' : (i : Int) < (n : Int) := by omega
    by_cases hij : i = j
    · subst hij
      rw [HJ.out] at hy
      cases hy
      have hne : (x == x) = true := by simp
      go_wp2_with fail
      go_ret
      exact ⟨i, rfl, HJ.out, rfl⟩
    have hne : (y.node == x) = false := by
      rw [beq_eq_false_iff_ne]
      intro e
      refine hij (nodup_idx hE.nodup (i := i) (j := j) (a := x) ?_ ?_)
      · rw [List.getElem?_map, hy, ← e]; rfl
      · rw [List.getElem?_map, HJ.out]; rfl
    clear hy
    go_wp2_with fail
    go_round
    case rel => exact ⟨i + 1, by omega, by go_num⟩
    case measure => simp [intOf]; omega

def fV (v : Value) : List Value := [v]
theorem len_fV (v : Value) : (fV v).length = 1 := rfl
/-- The document's tree at block t: its nodes, and what they were ahead of each operation. -/
def refP (t : Nat) (L : List KidD) (Ws : List (List KidD)) : HProp :=
  ex fun v => ex fun vw => ex fun vs : List Value => all [lift (vs.length = Ws.length), own t (.cells #[v, vw] 61 (0, 0)), rowT fV vw 36 1 vs, poolP fK ((v, L) :: vs.zip Ws)]
theorem refP_I {w : World} {l : List HProp} {t : Nat} {L : List KidD} {Ws : List (List KidD)} {v vw : Value} {vs : List Value} (h : vs.length = Ws.length)
    (hs : Sat w (own t (.cells #[v, vw] 61 (0, 0)) :: rowT fV vw 36 1 vs :: poolP fK ((v, L) :: vs.zip Ws) :: l)) : Sat w (refP t L Ws :: l) :=
  Sat.exI v (Sat.exI vw (Sat.exI vs (Sat.allI (hs.liftI h))))
theorem refP_E {w : World} {l : List HProp} {t : Nat} {L : List KidD} {Ws : List (List KidD)} (hs : Sat w (refP t L Ws :: l)) :
    ∃ v vw vs, vs.length = Ws.length ∧ Sat w (own t (.cells #[v, vw] 61 (0, 0)) :: rowT fV vw 36 1 vs :: poolP fK ((v, L) :: vs.zip Ws) :: l) := by
  obtain ⟨v, h⟩ := hs.exE
  obtain ⟨vw, h⟩ := h.exE
  obtain ⟨vs, h⟩ := h.exE
  exact ⟨v, vw, vs, h.allE.liftE⟩

/-- What a method that only reads needs of the tree. -/
theorem refP_L {w : World} {l : List HProp} {t : Nat} {L : List KidD} {Ws : List (List KidD)} (hs : Sat w (refP t L Ws :: l)) : ∃ ao cap, w.cell? ⟨t, 0, none⟩ = some (.slice ao L.length cap) ∧ ArgRow w fK ao L.length cap L ∧ t < w.heap.size := by
  obtain ⟨v, vw, vs, hl, h⟩ := refP_E hs
  obtain ⟨ao, cap, rfl, ha⟩ := (h.pull 2).poolArg (v := v) (ks := L) (by simp)
  have c0 := h.cell 0
  simp at c0
  exact ⟨ao, cap, c0, ha, h.lt⟩

set_option maxRecDepth 100000 in
theorem ref_known {w : World} {l : List HProp} {t : Nat} {L : List KidD} {Ws : List (List KidD)} {f : Int → Option Loc} {n : Int} (hs : Sat w (refP t L Ws :: l)) (hE : EnumK f L) (hL : L.length ≤ 1000) :
    Calls Tryd.prog 23 #[.pointer (some ⟨t, 0, none⟩), .int .i64 n] w fun e w' => e = .returned (.bool (known f n)) ∧ w = w' := by
  obtain ⟨ao, cap, c0, ha, _⟩ := refP_L hs
  cases e0 : (n == 0) with
  | true =>
    obtain rfl : n = 0 := by simpa using e0
    go_enter Tryd.func23, Tryd.ntmps23
    go_wp2_with fail
    go_ret
    exact ⟨by simp [known], rfl⟩
  | false =>
    cases e1 : (n == 1) with
    | true =>
      obtain rfl : n = 1 := by simpa using e1
      go_enter Tryd.func23, Tryd.ntmps23
      go_wp2_with fail
      go_ret
      exact ⟨by simp [known], rfl⟩
    | false =>
      cases hf : f n with
      | none =>
        have hk : known f n = false := by unfold known; rw [hf, e0, e1]; rfl
        rw [hk]
        have hat := ref_at_none (x := n) ha hE hf hL
        clear hk hf hE
        go_enter Tryd.func23, Tryd.ntmps23
        go_wp2_with fail
        refine hat.mono ?_
        rintro e w1 ⟨rfl, rfl⟩
        go_wp2_with fail
        go_ret
        exact ⟨rfl, rfl⟩
      | some s =>
        have hk : known f n = true := by unfold known; rw [hf]; rfl
        rw [hk]
        have hat := ref_at_some (x := n) ha hE hf hL
        clear hk hf hE
        go_enter Tryd.func23, Tryd.ntmps23
        go_wp2_with fail
        refine hat.mono ?_
        rintro e w1 ⟨i, rfl, -, rfl⟩
        have hi0 : (0 : Int) ≤ (i : Int) := by omega
        go_wp2_with fail
        go_ret
        exact ⟨rfl, rfl⟩

set_option maxRecDepth 100000 in
theorem ref_spot {w : World} {l : List HProp} {t : Nat} {L : List KidD} {Ws : List (List KidD)} {f : Int → Option Loc} {n : Int} (hs : Sat w (refP t L Ws :: l)) (hE : EnumK f L) (hL : L.length ≤ 1000) :
    Calls Tryd.prog 25 #[.pointer (some ⟨t, 0, none⟩), .int .i64 n] w fun e w' => e = .returned (vL (f n)) ∧ Sat w' (refP t L Ws :: l) ∧ Kp w w' := by
  have hB := hs.alloc (.cells #[.bool false, .int .i64 0, .string ⟨#[]⟩] 49)
  have kB := (Kp.refl w).alloc (.cells #[.bool false, .int .i64 0, .string ⟨#[]⟩] 49)
  cases hf : f n with
  | none =>
    go_enter Tryd.func25, Tryd.ntmps25
    go_upto_region 1 with (fail)
    generalize World.alloc _ _ = w1 at hB kB ⊢
    generalize w.heap.size = B at hB ⊢
    obtain ⟨ao, cap, c0, ha, _⟩ := refP_L (hB.pull 1)
    have hat := ref_at_none (x := n) ha hE hf hL
    go_wp2_with fail
    refine hat.mono ?_
    rintro e w2 ⟨rfl, rfl⟩
    clear hat
    have hC := ((hB.set 0 (.bool false)).set 1 (.int .i64 0)).set 2 (.string ⟨#[]⟩)
    have kC := ((kB.setCell ⟨B, 0, none⟩ (.bool false)).setCell ⟨B, 1, none⟩ (.int .i64 0)).setCell ⟨B, 2, none⟩ (.string ⟨#[]⟩)
    have f0 := hB.free 0
    have f1 := hB.free 1
    have f2 := hB.free 2
    have b0 := hB.cell 0
    have b1 := hB.cell 1
    have b2 := hB.cell 2
    simp at b0 b1 b2
    go_wp2_with fail
    exact bodyPost_ret (v := .agg #[.bool false, .int .i64 0, .string ⟨#[]⟩]) (by simp [results, Tryd.results25, go_sem, b0, b1, b2, f0, f1, f2]) rfl ⟨rfl, hC.tail, kC⟩
  | some s =>
    go_enter Tryd.func25, Tryd.ntmps25
    go_upto_region 1 with (fail)
    generalize World.alloc _ _ = w1 at hB kB ⊢
    generalize w.heap.size = B at hB ⊢
    obtain ⟨ao, cap, c0, ha, ht⟩ := refP_L (hB.pull 1)
    have hat := ref_at_some (x := n) ha hE hf hL
    have hL' : (L.length : Int) ≤ 1000 := by omega
    generalize hn : L.length = m at ha c0 hat hL'
    have HN := Lib.hid hn
    clear hn
    go_wp2_with fail
    refine hat.mono ?_
    rintro e w2 ⟨i, rfl, hi, rfl⟩
    clear hat
    have hilt := (List.getElem?_eq_some_iff.1 hi).1
    rw [HN.out] at hilt
    obtain ⟨b, off, rfl⟩ := ha.some hilt
    have y0 := ha.cell len_fK 0 rfl hi rfl
    have y1 := ha.cell len_fK 1 rfl hi rfl
    rw [Nat.add_zero] at y0
    have i0' : (0 : Int) ≤ (i : Int) := by omega
    have i1' : (i : Int) < (m : Int) := by omega
    have hbl := World.block_lt_of_cell? _ _ y1
    have hC := (((hB.set 0 (.bool true)).set 1 (.int .i64 s.up)).set 2 (.string s.name)).drew
    have kC := (((kB.setCell ⟨B, 0, none⟩ (.bool true)).setCell ⟨B, 1, none⟩ (.int .i64 s.up)).setCell ⟨B, 2, none⟩ (.string s.name)).drew
    have f0 := hB.free 0
    have f1 := hB.free 1
    have f2 := hB.free 2
    have b0 := hB.cell 0
    have b1 := hB.cell 1
    have b2 := hB.cell 2
    simp at b0 b1 b2
    clear hi
    go_wp2_with fail
    go_region
    all_goals
      go_wp2_with fail
      exact bodyPost_ret (v := .agg #[.bool true, .int .i64 s.up, .string s.name]) (by simp [results, Tryd.results25, go_sem, b0, b1, b2, f0, f1, f2]) rfl ⟨rfl, hC.tail, kC⟩

end Go.Proofs.YtbnipieokpeadaaDoor

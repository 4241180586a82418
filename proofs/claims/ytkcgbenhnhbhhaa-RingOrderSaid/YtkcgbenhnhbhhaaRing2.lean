import Derived.Test.YtkcgbenhnhbhhaaRing
namespace Go.Proofs.Ytkcgbenhnhbhhaa
open Go Go.RowKit

theorem ringI_take_none {w : World} {l : List HProp} {r : Nat} {most : Int} {closed : Bool} (hs : Sat w (ringI r most [] closed :: l)) :
    Calls Try.prog 18 #[.pointer (some ⟨r, 0, none⟩)] w fun e w' => e = .returned (.tuple #[.int .i64 0, .bool false]) ∧ w = w' := by
  obtain ⟨v, hv⟩ := ringI_E hs
  have c1 := hv.cell 1
  simp at c1
  rcases (hv.pull 1).tForm with ⟨rfl, _⟩ | ⟨g, off, cap, rfl⟩
  all_goals
    go_enter Try.func18, Try.ntmps18
    go_wp2
    go_ret2
    exact ⟨rfl, rfl⟩

set_option maxRecDepth 100000 in
theorem ringI_take {w : World} {l : List HProp} {r : Nat} {most x : Int} {xs : List Int} {closed : Bool} (hs : Sat w (ringI r most (x :: xs) closed :: l)) (hn : xs.length < 65536) :
    Calls Try.prog 18 #[.pointer (some ⟨r, 0, none⟩)] w fun e w' => e = .returned (.tuple #[.int .i64 x, .bool true]) ∧ Sat w' (ringI r most xs closed :: l) ∧ Kp w w' := by
  obtain ⟨v, hv⟩ := ringI_E hs
  have c1 := hv.cell 1
  have f1 := hv.free 1
  have hr := hv.lt
  obtain ⟨i0, hi, hz0, hz1, hz2⟩ := info_parts Try.infoInt
  simp at c1
  obtain ⟨g, off, cap, rfl⟩ := (hv.pull 1).tSome
  have k0 := (hv.pull 1).rowCell 0 (by simp)
  have hcap := (hv.pull 1).tCap
  simp [fI] at k0
  have hg : g < w.heap.size := World.block_lt_of_cell? _ _ k0
  replace hcap := hcap.1
  have hA := hv.rowEmpty 3 1
  cases xs with
  | nil =>
    simp at hcap
    go_enter Try.func18, Try.ntmps18
    go_wp2_with (at_builtin; refine wpList_append_row rfl (.tmp 22) (.tmp 29) 22 rfl 3 i0 (.int .i64 0) 1 8 Try.underlying22 hi hz0 hz1 hz2 rfl (by decide) _ _ _ _ rfl hA ⟨g, off, none⟩ 0 0 [] rfl rfl ?c1 ?c2 ?c3 ?c4 ?c5)
    case c1 => intro j u h; simp at h
    case c2 => intro u h; simp at h
    case c3 => unfold maxLen; omega
    case c4 => omega
    case c5 =>
      intro v' w1 hs1 hk
      have hs2 := hs1.pull 1
      have d1 := hs2.cell 1
      have g1 := hs2.free 1
      simp at d1
      rcases hs1.rowForm with ⟨rfl, _⟩ | ⟨g', off', cap', rfl⟩
      all_goals
        go_wp2
        go_ret2
        refine ⟨rfl, ?_, ((Kp.refl w).alloc _ |>.trans hk).setCell _ _⟩
        exact ringI_I ((((hs2.set 1 _).pull 2).tail.pull 1).tOf [] rfl rfl |>.pull 1)
  | cons y ys =>
    simp at hcap hn
    have hy : ∀ j u, ((y :: ys).flatMap fI)[j]? = some u → w.cell? ⟨g, off + 1 + j, none⟩ = some u := by
      intro j u hj
      have hlt := (List.getElem?_eq_some_iff.1 hj).1
      rw [Nat.add_assoc, (hv.pull 1).rowCell (1 + j) (by rw [len_fI] at hlt; simp at hlt ⊢; omega), Nat.add_comm 1 j]
      exact hj
    go_enter Try.func18, Try.ntmps18
    go_wp2_with (at_builtin; refine wpList_append_row rfl (.tmp 22) (.tmp 29) 22 rfl 3 i0 (.int .i64 0) 1 8 Try.underlying22 hi hz0 hz1 hz2 rfl (by decide) _ _ _ _ rfl hA ⟨g, off + 1, none⟩ (ys.length + 1) (ys.length + 1) ((y :: ys).flatMap fI) rfl ?c0 ?c1 ?c2 ?c3 ?c4 ?c5)
    case c0 => rw [len_fI]; simp
    case c1 => intro j u hj; rw [Addr.add_lit, World.cell?_alloc_lt _ _ _ hg]; exact hy j u hj
    case c2 => exact one_fI _
    case c3 => unfold maxLen; omega
    case c4 => omega
    case c5 =>
      intro v' w1 hs1 hk
      have hs2 := hs1.pull 1
      have d1 := hs2.cell 1
      have g1 := hs2.free 1
      simp at d1
      obtain ⟨g', off', m', cap', rfl⟩ := hs1.rowSome
      go_wp2
      go_ret2
      refine ⟨rfl, ?_, ((Kp.refl w).alloc _ |>.trans hk).setCell _ _⟩
      exact ringI_I ((((hs2.set 1 _).pull 2).tail.pull 1).tOf (y :: ys) (by simp) (by simp) |>.pull 1)

end Go.Proofs.Ytkcgbenhnhbhhaa

import Derived.Test.YtkcgbenhnhbhhaaRing2
namespace Go.Proofs.Ytkcgbenhnhbhhaa
open Go Go.RowKit

/-- The document's queue at block r. -/
def ringD (r : Nat) (most : Int) (taken : Nat) (xs : List Int) (closed : Bool) : HProp :=
  ex fun v => star (own r (.cells #[.int .i64 most, .int .i64 taken, v, .bool closed] 28 (0, 0))) (rowT fI v 3 1 xs)
theorem ringD_I {w : World} {l : List HProp} {r : Nat} {most : Int} {taken : Nat} {xs : List Int} {closed : Bool} {v : Value}
    (hs : Sat w (own r (.cells #[.int .i64 most, .int .i64 taken, v, .bool closed] 28 (0, 0)) :: rowT fI v 3 1 xs :: l)) : Sat w (ringD r most taken xs closed :: l) :=
  Sat.exI v hs.join
theorem ringD_E {w : World} {l : List HProp} {r : Nat} {most : Int} {taken : Nat} {xs : List Int} {closed : Bool} (hs : Sat w (ringD r most taken xs closed :: l)) :
    ∃ v, Sat w (own r (.cells #[.int .i64 most, .int .i64 taken, v, .bool closed] 28 (0, 0)) :: rowT fI v 3 1 xs :: l) := by
  obtain ⟨v, h⟩ := hs.exE
  exact ⟨v, h.split⟩

theorem ringD_put_closed {w : World} {l : List HProp} {r : Nat} {most x : Int} {taken : Nat} {xs : List Int} (hs : Sat w (ringD r most taken xs true :: l)) :
    Calls Try.prog 21 #[.pointer (some ⟨r, 0, none⟩), .int .i64 x] w fun e w' => e = .returned (.int .i64 8) ∧ w = w' := by
  obtain ⟨v, hv⟩ := ringD_E hs
  have c3 := hv.cell 3
  simp at c3
  go_enter Try.func21, Try.ntmps21
  go_wp2
  go_ret
  exact ⟨rfl, rfl⟩

theorem ringD_put_full {w : World} {l : List HProp} {r : Nat} {x : Int} {taken k : Nat} {xs : List Int} (hs : Sat w (ringD r k taken xs false :: l)) (hf : xs.length ≤ taken + k) (hf' : taken + k ≤ xs.length) (hm : xs.length ≤ 65536) :
    Calls Try.prog 21 #[.pointer (some ⟨r, 0, none⟩), .int .i64 x] w fun e w' => e = .returned (.int .i64 7) ∧ Sat w' (ringD r k taken xs false :: l) ∧ Kp w w' := by
  obtain ⟨v, hv⟩ := ringD_E hs
  have c0 := hv.cell 0
  have c1 := hv.cell 1
  have c2 := hv.cell 2
  have c3 := hv.cell 3
  simp at c0 c1 c2 c3
  rcases (hv.pull 1).tForm with ⟨rfl, rfl⟩ | ⟨g, off, cap, rfl⟩
  · simp only [List.length_nil] at hf hf'
    obtain rfl : taken = 0 := by omega
    obtain rfl : k = 0 := by omega
    go_enter Try.func21, Try.ntmps21
    go_wp2
    go_quiet (fail)
    go_wp2
    go_ret
    exact ⟨rfl, hs.drewN _, (Kp.refl w).drewN _⟩
  · have hd : (((xs.length : Int) - (taken : Int)) == (k : Int)) = true := by rw [beq_iff_eq]; omega
    have hw : IntKind.i64.wrap ((xs.length : Int) - (taken : Int)) = (xs.length : Int) - (taken : Int) := IntWalk.i64_in _ (by omega)
    go_enter Try.func21, Try.ntmps21
    go_wp2
    go_quiet (fail)
    go_wp2
    go_ret
    exact ⟨rfl, hs.drewN _, (Kp.refl w).drewN _⟩

set_option maxRecDepth 100000 in
theorem ringD_put {w : World} {l : List HProp} {r : Nat} {x : Int} {taken k : Nat} {xs : List Int} (hs : Sat w (ringD r k taken xs false :: l)) (hf : xs.length < taken + k) (ht : taken ≤ xs.length) (hm : xs.length ≤ 65536) (hk0 : k ≤ 65536) :
    Calls Try.prog 21 #[.pointer (some ⟨r, 0, none⟩), .int .i64 x] w fun e w' => e = .returned (.int .i64 0) ∧ Sat w' (ringD r k taken (xs ++ [x]) false :: l) ∧ Kp w w' := by
  obtain ⟨v, hv⟩ := ringD_E hs
  have c0 := hv.cell 0
  have c1 := hv.cell 1
  have c2 := hv.cell 2
  have c3 := hv.cell 3
  have f2 := hv.free 2
  have hr := hv.lt
  obtain ⟨i0, hi, hz0, hz1, hz2⟩ := info_parts Try.infoInt
  simp at c0 c1 c2 c3
  have hd : (((xs.length : Int) - (taken : Int)) == (k : Int)) = false := by rw [beq_eq_false_iff_ne]; omega
  have hw : IntKind.i64.wrap ((xs.length : Int) - (taken : Int)) = (xs.length : Int) - (taken : Int) := IntWalk.i64_in _ (by omega)
  rcases (hv.pull 1).tForm with ⟨rfl, rfl⟩ | ⟨g, off, cap, rfl⟩
  · simp only [List.length_nil, Int.cast_ofNat_Int] at hd hw ht hf
    obtain rfl : taken = 0 := by omega
    go_enter Try.func21, Try.ntmps21
    go_wp2
    go_quiet (fail)
    go_wp2_with (at_builtin; refine wpList_append_lit rfl (.tmp 28) (.tmp 30) 22 rfl 3 i0 (.int .i64 0) 1 8 Try.underlying22 hi hz0 hz1 hz2 rfl (by decide) _ _ _ w.heap.size _ _ _ rfl (Sat.pull 2 ((hv.drewN _).alloc _)) 1 1 rfl rfl rfl ?c3 ?c4 ?c5)
    case c3 => unfold maxLen; try simp only [List.length_nil]
               omega
    case c4 => try simp only [List.length_nil]
               omega
    case c5 =>
      intro v' w1 hs1 hk
      have hs2 := hs1.pull 2
      have d1 := hs2.cell 2
      have g1 := hs2.free 2
      simp at d1
      obtain ⟨g', off', m', cap', rfl⟩ := hs1.rowSome
      go_wp2
      go_ret
      have h3 := (((hs2.set 2 (.slice (some ⟨g', off', none⟩) m' cap')).pull 2).tail).pull 1
      refine ⟨rfl, ?_, ((((Kp.refl w).drewN _).alloc _).trans hk).setCell _ _⟩
      first | exact ringD_I ((Sat.tSnoc (f := fI) (xs := xs) (x := x) h3 rfl).pull 1) | exact ringD_I ((Sat.tSnoc (f := fI) (xs := []) (x := x) h3 rfl).pull 1)
  · go_enter Try.func21, Try.ntmps21
    go_wp2
    go_quiet (fail)
    go_wp2_with (at_builtin; refine wpList_append_lit rfl (.tmp 28) (.tmp 30) 22 rfl 3 i0 (.int .i64 0) 1 8 Try.underlying22 hi hz0 hz1 hz2 rfl (by decide) _ _ _ w.heap.size _ _ _ rfl (Sat.pull 2 ((hv.drewN _).alloc _)) 1 1 rfl rfl rfl ?c3 ?c4 ?c5)
    case c3 => unfold maxLen; try simp only [List.length_nil]
               omega
    case c4 => try simp only [List.length_nil]
               omega
    case c5 =>
      intro v' w1 hs1 hk
      have hs2 := hs1.pull 2
      have d1 := hs2.cell 2
      have g1 := hs2.free 2
      simp at d1
      obtain ⟨g', off', m', cap', rfl⟩ := hs1.rowSome
      go_wp2
      go_ret
      have h3 := (((hs2.set 2 (.slice (some ⟨g', off', none⟩) m' cap')).pull 2).tail).pull 1
      refine ⟨rfl, ?_, ((((Kp.refl w).drewN _).alloc _).trans hk).setCell _ _⟩
      first | exact ringD_I ((Sat.tSnoc (f := fI) (xs := xs) (x := x) h3 rfl).pull 1) | exact ringD_I ((Sat.tSnoc (f := fI) (xs := []) (x := x) h3 rfl).pull 1)

theorem ringD_take_none {w : World} {l : List HProp} {r : Nat} {most : Int} {taken : Nat} {xs : List Int} {closed : Bool} (hs : Sat w (ringD r most taken xs closed :: l)) (h1 : taken ≤ xs.length) (h2 : xs.length ≤ taken) :
    Calls Try.prog 19 #[.pointer (some ⟨r, 0, none⟩)] w fun e w' => e = .returned (.tuple #[.int .i64 0, .bool false]) ∧ Sat w' (ringD r most taken xs closed :: l) ∧ Kp w w' := by
  obtain ⟨v, hv⟩ := ringD_E hs
  have c1 := hv.cell 1
  have c2 := hv.cell 2
  simp at c1 c2
  have hd : ((taken : Int) == (xs.length : Int)) = true := by rw [beq_iff_eq]; omega
  rcases (hv.pull 1).tForm with ⟨rfl, rfl⟩ | ⟨g, off, cap, rfl⟩
  · simp only [List.length_nil, Int.cast_ofNat_Int] at hd h1 h2
    obtain rfl : taken = 0 := by omega
    go_enter Try.func19, Try.ntmps19
    go_wp2
    go_quiet (fail)
    go_wp2
    go_ret2
    exact ⟨rfl, hs.drewN _, (Kp.refl w).drewN _⟩
  · go_enter Try.func19, Try.ntmps19
    go_wp2
    go_quiet (fail)
    go_wp2
    go_ret2
    exact ⟨rfl, hs.drewN _, (Kp.refl w).drewN _⟩

set_option maxRecDepth 100000 in
theorem ringD_take {w : World} {l : List HProp} {r : Nat} {most x : Int} {taken : Nat} {xs : List Int} {closed : Bool} (hs : Sat w (ringD r most taken xs closed :: l)) (h1 : taken < xs.length) (hx : xs[taken]? = some x) (hm : xs.length ≤ 65536) :
    Calls Try.prog 19 #[.pointer (some ⟨r, 0, none⟩)] w fun e w' => e = .returned (.tuple #[.int .i64 x, .bool true]) ∧ Sat w' (ringD r most (taken + 1) xs closed :: l) ∧ Kp w w' := by
  obtain ⟨v, hv⟩ := ringD_E hs
  have c1 := hv.cell 1
  have c2 := hv.cell 2
  have f1 := hv.free 1
  simp at c1 c2
  rcases (hv.pull 1).tForm with ⟨rfl, rfl⟩ | ⟨g, off, cap, rfl⟩
  · simp at h1
  have hcell := (hv.pull 1).tCellI taken x hx
  have hne : g ≠ r := (hv.pull 1).rowNe
  have hd : ((taken : Int) == (xs.length : Int)) = false := by rw [beq_eq_false_iff_ne]; omega
  go_enter Try.func19, Try.ntmps19
  go_wp2
  go_quiet (fail)
  go_wp2
  have hw : IntKind.i64.wrap ((taken : Int) + 1 - 1) = (taken : Int) := by rw [IntWalk.i64_in _ (by omega)]; omega
  have b0 : (0 : Int) ≤ (taken : Int) := by omega
  have b1 : (taken : Int) < (xs.length : Int) := by omega
  go_quiet (fail)
  go_wp2
  go_ret2
  exact ⟨rfl, ringD_I ((((hv.drewN _).set 1 (.int .i64 ((taken : Int) + 1))).drewN _)), (((Kp.refl w).drewN _).setCell _ _).drewN _⟩

end Go.Proofs.Ytkcgbenhnhbhhaa

import Derived.Test.YtkcgbenhnhbhhaaSl
import Derived.Test.YtkcgbenhnhbhhaaRows
import Derived.Deep.QuietTactic
import Derived.BigQuiet
namespace Go.Proofs.Ytkcgbenhnhbhhaa
open Go Go.RowKit

theorem Try.infoInt : (Try.prog.info? 3).map (fun i => (i.zero, i.size, i.bytes)) = some (some (.int .i64 0), 1, 8) := by kernel_rfl

/-- A queue of ints at block r. -/
def ringI (r : Nat) (most : Int) (xs : List Int) (closed : Bool) : HProp :=
  ex fun v => star (own r (.cells #[.int .i64 most, v, .bool closed] 87 (0, 0))) (rowT fI v 3 1 xs)

theorem ringI_I {w : World} {l : List HProp} {r : Nat} {most : Int} {xs : List Int} {closed : Bool} {v : Value}
    (hs : Sat w (own r (.cells #[.int .i64 most, v, .bool closed] 87 (0, 0)) :: rowT fI v 3 1 xs :: l)) : Sat w (ringI r most xs closed :: l) :=
  Sat.exI v hs.join
theorem ringI_E {w : World} {l : List HProp} {r : Nat} {most : Int} {xs : List Int} {closed : Bool} (hs : Sat w (ringI r most xs closed :: l)) :
    ∃ v, Sat w (own r (.cells #[.int .i64 most, v, .bool closed] 87 (0, 0)) :: rowT fI v 3 1 xs :: l) := by
  obtain ⟨v, h⟩ := hs.exE
  exact ⟨v, h.split⟩

theorem ringI_new (most : Int) (w : World) (l : List HProp) (hs : Sat w l) (h0 : 0 ≤ most) (h1 : most ≤ 65536) :
    Calls Try.prog 16 #[.int .i64 most] w fun e w' => ∃ r, e = .returned (.pointer (some ⟨r, 0, none⟩)) ∧ Sat w' (ringI r most [] false :: l) ∧ Kp w w' := by
  go_enter Try.func16, Try.ntmps16
  go_wp2
  go_ret
  exact ⟨w.heap.size, rfl, ringI_I ((hs.tNil _ _ _).alloc _), (Kp.refl w).alloc _⟩

theorem ringI_new_not (most : Int) (w : World) (h : most < 0 ∨ 65536 < most) :
    Calls Try.prog 16 #[.int .i64 most] w fun e w' => e = .returned (.pointer none) ∧ w = w' := by
  rcases h with h | h
  · go_enter Try.func16, Try.ntmps16
    go_wp2
    go_ret
    exact ⟨rfl, rfl⟩
  · have h0 : 0 ≤ most := by omega
    go_enter Try.func16, Try.ntmps16
    go_wp2
    go_ret
    exact ⟨rfl, rfl⟩

theorem ringI_close {w : World} {l : List HProp} {r : Nat} {most : Int} {xs : List Int} {closed : Bool} (hs : Sat w (ringI r most xs closed :: l)) :
    Calls Try.prog 17 #[.pointer (some ⟨r, 0, none⟩)] w fun e w' => e = .returned (.tuple #[]) ∧ Sat w' (ringI r most xs true :: l) ∧ Kp w w' := by
  obtain ⟨v, hv⟩ := ringI_E hs
  have c2 := hv.cell 2
  have f2 := hv.free 2
  simp at c2
  go_enter Try.func17, Try.ntmps17
  go_wp2
  go_end0
  exact ⟨rfl, ringI_I (hv.set 2 _), (Kp.refl w).setCell _ _⟩

theorem ringI_closed {w : World} {l : List HProp} {r : Nat} {most : Int} {xs : List Int} {closed : Bool} (hs : Sat w (ringI r most xs closed :: l)) :
    Calls Try.prog 23 #[.pointer (some ⟨r, 0, none⟩)] w fun e w' => e = .returned (.bool closed) ∧ w = w' := by
  obtain ⟨v, hv⟩ := ringI_E hs
  have c2 := hv.cell 2
  simp at c2
  go_enter Try.func23, Try.ntmps23
  go_wp2
  go_ret
  exact ⟨rfl, rfl⟩

theorem ringI_len {w : World} {l : List HProp} {r : Nat} {most : Int} {xs : List Int} {closed : Bool} (hs : Sat w (ringI r most xs closed :: l)) :
    Calls Try.prog 22 #[.pointer (some ⟨r, 0, none⟩)] w fun e w' => e = .returned (.int .i64 xs.length) ∧ w = w' := by
  obtain ⟨v, hv⟩ := ringI_E hs
  have c1 := hv.cell 1
  simp at c1
  rcases (hv.pull 1).tForm with ⟨rfl, rfl⟩ | ⟨g, off, cap, rfl⟩
  all_goals
    go_enter Try.func22, Try.ntmps22
    go_wp2
    go_ret
    exact ⟨rfl, rfl⟩

theorem ringI_put_closed {w : World} {l : List HProp} {r : Nat} {most x : Int} {xs : List Int} (hs : Sat w (ringI r most xs true :: l)) :
    Calls Try.prog 20 #[.pointer (some ⟨r, 0, none⟩), .int .i64 x] w fun e w' => e = .returned (.int .i64 8) ∧ w = w' := by
  obtain ⟨v, hv⟩ := ringI_E hs
  have c2 := hv.cell 2
  simp at c2
  go_enter Try.func20, Try.ntmps20
  go_wp2
  go_ret
  exact ⟨rfl, rfl⟩

theorem ringI_put_full {w : World} {l : List HProp} {r : Nat} {most x : Int} {xs : List Int} (hs : Sat w (ringI r most xs false :: l)) (hf : most ≤ xs.length) :
    Calls Try.prog 20 #[.pointer (some ⟨r, 0, none⟩), .int .i64 x] w fun e w' => e = .returned (.int .i64 7) ∧ Sat w' (ringI r most xs false :: l) ∧ Kp w w' := by
  obtain ⟨v, hv⟩ := ringI_E hs
  have c0 := hv.cell 0
  have c1 := hv.cell 1
  have c2 := hv.cell 2
  simp at c0 c1 c2
  rcases (hv.pull 1).tForm with ⟨rfl, rfl⟩ | ⟨g, off, cap, rfl⟩
  all_goals
    try simp only [List.length_nil, Int.cast_ofNat_Int] at hf
    go_enter Try.func20, Try.ntmps20
    go_wp2
    go_quiet (fail)
    go_wp2
    go_ret
    exact ⟨rfl, hs.drewN _, (Kp.refl w).drewN _⟩

set_option maxRecDepth 100000 in
theorem ringI_put {w : World} {l : List HProp} {r : Nat} {most x : Int} {xs : List Int} (hs : Sat w (ringI r most xs false :: l)) (hf : (xs.length : Int) < most) (hm : most ≤ 65536) :
    Calls Try.prog 20 #[.pointer (some ⟨r, 0, none⟩), .int .i64 x] w fun e w' => e = .returned (.int .i64 0) ∧ Sat w' (ringI r most (xs ++ [x]) false :: l) ∧ Kp w w' := by
  obtain ⟨v, hv⟩ := ringI_E hs
  have c0 := hv.cell 0
  have c1 := hv.cell 1
  have c2 := hv.cell 2
  have f1 := hv.free 1
  have hr := hv.lt
  obtain ⟨i0, hi, hz0, hz1, hz2⟩ := info_parts Try.infoInt
  simp at c0 c1 c2
  rcases (hv.pull 1).tForm with ⟨rfl, rfl⟩ | ⟨g, off, cap, rfl⟩
  all_goals
    try simp only [List.length_nil, Int.cast_ofNat_Int] at hf
    go_enter Try.func20, Try.ntmps20
    go_wp2
    go_quiet (fail)
    go_wp2_with (at_builtin; refine wpList_append_lit rfl (.tmp 25) (.tmp 27) 22 rfl 3 i0 (.int .i64 0) 1 8 Try.underlying22 hi hz0 hz1 hz2 rfl (by decide) _ _ _ w.heap.size _ _ _ rfl (Sat.pull 2 ((hv.drewN _).alloc _)) 1 1 rfl rfl rfl ?c3 ?c4 ?c5)
    case c3 => unfold maxLen; try simp only [List.length_nil]
               omega
    case c4 => try simp only [List.length_nil]
               omega
    case c5 =>
      intro v' w1 hs1 hk
      have hs2 := hs1.pull 2
      have d1 := hs2.cell 1
      have g1 := hs2.free 1
      simp at d1
      obtain ⟨g', off', m', cap', rfl⟩ := hs1.rowSome
      go_wp2
      go_ret
      have h3 := (((hs2.set 1 (.slice (some ⟨g', off', none⟩) m' cap')).pull 2).tail).pull 1
      refine ⟨rfl, ?_, ((((Kp.refl w).drewN _).alloc _).trans hk).setCell _ _⟩
      first | exact ringI_I ((Sat.tSnoc (f := fI) (xs := xs) (x := x) h3 rfl).pull 1) | exact ringI_I ((Sat.tSnoc (f := fI) (xs := []) (x := x) h3 rfl).pull 1)

end Go.Proofs.Ytkcgbenhnhbhhaa

import Derived.Test.YtbnipieokpeadaaDoorLaw2
import Derived.Test.YtbnipieokpeadaaDoorArgs
import Derived.Test.YtbnipieokpeadaaDoorGrow
namespace Go.Proofs.YtbnipieokpeadaaDoor
open Go Go.RowKit Go.ChangeShapes Go.WideShapes Go.Deep
set_option linter.unusedVariables false
set_option linter.unusedSimpArgs false

section
variable {H : Type} {enc : TypeId × Value → H} {w : World} {base : Nat} {spare : Nat → Bool} {held : Bool}
set_option maxRecDepth 100000 in
theorem open_op (n : Nat) (cs : List Value) (y : DataW H × List MemPlace) (h : DataW.trod enc Tryd.prog w base spare held n 33 cs = some y) (hl : cs.length = 5) : ∃ x : OpD, cs = fO x ∧ x.name.size ≤ maxLen := by
  obtain ⟨ys, m, _, _, _, hyl, hg⟩ := DataW.trod_struct Tryd.underlying33 h
  have hs2 : Tryd.prog.cellsOf 31 = 2 := by kernel_rfl
  have hi1 : Tryd.prog.cellsOf 3 = 1 := by kernel_rfl
  have hs1 : Tryd.prog.cellsOf 9 = 1 := by kernel_rfl
  match cs, hl with
  | [c0, c1, c2, c3, c4], _ =>
    have g0 : DataW.trod enc Tryd.prog w base spare held m 31 (([c0, c1, c2, c3, c4].drop 0).take (Tryd.prog.cellsOf 31)) = ys[0]? := hg 0 _ rfl
    have g1 : DataW.trod enc Tryd.prog w base spare held m 3 (([c0, c1, c2, c3, c4].drop 2).take (Tryd.prog.cellsOf 3)) = ys[1]? := hg 1 _ rfl
    have g2 : DataW.trod enc Tryd.prog w base spare held m 3 (([c0, c1, c2, c3, c4].drop 3).take (Tryd.prog.cellsOf 3)) = ys[2]? := hg 2 _ rfl
    have g3 : DataW.trod enc Tryd.prog w base spare held m 9 (([c0, c1, c2, c3, c4].drop 4).take (Tryd.prog.cellsOf 9)) = ys[3]? := hg 3 _ rfl
    rw [hs2] at g0
    rw [hi1] at g1 g2
    rw [hs1] at g3
    have yl : ys.length = 4 := hyl
    have e0 : ys[0]? = some (ys[0]'(by omega)) := List.getElem?_eq_getElem (by omega)
    have e1 : ys[1]? = some (ys[1]'(by omega)) := List.getElem?_eq_getElem (by omega)
    have e2 : ys[2]? = some (ys[2]'(by omega)) := List.getElem?_eq_getElem (by omega)
    have e3 : ys[3]? = some (ys[3]'(by omega)) := List.getElem?_eq_getElem (by omega)
    obtain ⟨k, hk⟩ := struct_cells Tryd.underlying31 (by kernel_rfl) (g0.trans e0) rfl
    obtain ⟨v0, z0, q0, t0⟩ := hk 0 _ rfl
    obtain ⟨v1, z1, q1, t1⟩ := hk 1 _ rfl
    obtain ⟨x0, r0, _, _⟩ := DataW.trod_int Tryd.underlying3 t0
    obtain ⟨x1, r1, _, _⟩ := DataW.trod_int Tryd.underlying3 t1
    obtain ⟨x2, r2, _, _⟩ := DataW.trod_int Tryd.underlying3 (g1.trans e1)
    obtain ⟨x3, r3, _, _⟩ := DataW.trod_int Tryd.underlying3 (g2.trans e2)
    obtain ⟨s4, r4, _, hz⟩ := DataW.trod_string Tryd.underlying9 (g3.trans e3)
    have p2 : c2 = Value.int .i64 x2 := (List.cons.inj r2).1
    have p3 : c3 = Value.int .i64 x3 := (List.cons.inj r3).1
    have p4 : c4 = Value.string s4 := (List.cons.inj r4).1
    have p0 : c0 = Value.int .i64 x0 := (Option.some.inj q0).trans (List.cons.inj r0).1
    have p1 : c1 = Value.int .i64 x1 := (Option.some.inj q1).trans (List.cons.inj r1).1
    refine ⟨⟨x0, x1, x2, x3, s4⟩, ?_, hz⟩
    rw [p0, p1, p2, p3, p4]
    rfl
end

/-- Are all names short? -/
def shortO (os : List OpD) : Bool := os.all fun o => decide (o.name.size ≤ 60)

set_option maxRecDepth 100000 in
set_option maxHeartbeats 1000000 in
theorem short_ops {W w : World} {l : List HProp} {ao : Option Addr} {n cap : Nat} {os : List OpD} (hs : Sat w (oldH W :: l)) (hr : ArgRow W fO ao n cap os) :
    Calls Tryd.prog 26 #[.slice ao n cap] w fun e w' => e = .returned (.bool (shortO os)) ∧ Sat w' (oldH W :: l) ∧ Kp w w' := by
  have HL := Lib.hid hr.len
  have hle := hr.le
  have hsm := hr.small
  unfold maxLen at hsm
  obtain ⟨ANS, hANS⟩ : ∃ ANS, shortO os = ANS := ⟨_, rfl⟩
  rw [hANS]
  have HA := Lib.hid hANS
  clear hANS
  go_enter Tryd.func26, Tryd.ntmps26
  go_wp2_with fail
  go_loopw [3] (fun iv wr => ∃ i : Nat, i ≤ n ∧ iv = .int .i64 i ∧ Hid (∀ j, j < i → ∀ o, os[j]? = some o → o.name.size ≤ 60) ∧ Sat wr (oldH W :: l) ∧ Kp w wr) (fun iv _ => n - (intOf iv).toNat)
  case atStart => exact ⟨0, by omega, rfl, Lib.hid (fun j hj => absurd hj (Nat.not_lt_zero _)), hs, Kp.refl w⟩
  case round =>
    obtain ⟨i, hin, rfl, hI, h2, k2⟩ := hrel
    by_cases hlt : i < n
    case neg =>
      obtain rfl : n = i := by omega
      have HOK := Lib.hid (show ANS = true by
        rw [← HA.out]
        apply List.all_eq_true.2
        intro o ho
        obtain ⟨j, hj⟩ := List.getElem?_of_mem ho
        have := (List.getElem?_eq_some_iff.1 hj).1
        rw [HL.out] at this
        simpa using hI.out j this o hj)
      clear hI
      go_wp2_with fail
      obtain rfl := HOK.out
      go_ret
      exact ⟨rfl, h2, k2⟩
    obtain ⟨o, ho⟩ : ∃ o, os[i]? = some o := ⟨_, List.getElem?_eq_getElem (by rw [HL.out]; exact hlt)⟩
    have har := hr.old h2
    obtain ⟨b, off, rfl⟩ : ∃ b off, ao = some ⟨b, off, none⟩ := by
      obtain ⟨b, off, e, _⟩ := har.cells (by omega)
      exact ⟨b, off, e⟩
    obtain ⟨_, _, _, _, x4⟩ := op_at har ho
    have i0' : (0 : Int) ≤ (i : Int) := by omega
    have i1' : (i : Int) < (n : Int) := by omega
    have iw : IntKind.i64.wrap ((i : Int) + 1) = (i : Int) + 1 := by rw [IntWalk.i64_in _ (by omega)]
    by_cases hz : 60 < o.name.size
    · have hz' : (60 : Int) < (o.name.size : Int) := by omega
      have HOK := Lib.hid (show ANS = false by
        rw [← HA.out]
        cases hall : shortO os with
        | false => rfl
        | true =>
          have := List.all_eq_true.1 hall o (List.mem_of_getElem? ho)
          simp at this
          omega)
      clear hI ho har hz
      go_wp2_with fail
      obtain rfl := HOK.out
      go_ret
      exact ⟨rfl, h2, k2⟩
    · have hz' : ¬ (60 : Int) < (o.name.size : Int) := by omega
      have HI2 := Lib.hid (show ∀ j, j < i + 1 → ∀ o, os[j]? = some o → o.name.size ≤ 60 from fun j hj o' ho' => by
        by_cases e : j = i
        · subst e
          rw [ho] at ho'
          cases ho'
          omega
        · exact hI.out j (by omega) o' ho')
      clear hI ho har hz
      go_wp2_with fail
      go_roundw
      case rel => exact ⟨i + 1, by omega, by go_num, HI2, h2, k2⟩
      case measure => simp [intOf]; omega

end Go.Proofs.YtbnipieokpeadaaDoor

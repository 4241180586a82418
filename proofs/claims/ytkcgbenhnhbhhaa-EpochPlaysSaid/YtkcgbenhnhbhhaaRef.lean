import Derived.Test.YtkcgbenhnhbhhaaEpochAll
import Derived.BigQuiet
namespace Go.Proofs.Ytkcgbenhnhbhhaa
open Go Go.RowKit
set_option linter.unusedVariables false
set_option linter.unusedSimpArgs false

structure RefD where
  h : HanD
  by_ : Int
  gone : Bool
theorem Try.infoInt10 : (Try.prog.info? 3).map (fun i => (i.zero, i.size, i.bytes)) = some (some (.int .i64 0), 1, 8) := by kernel_rfl
theorem Try.infoBool10 : (Try.prog.info? 4).map (fun i => (i.zero, i.size, i.bytes)) = some (some (.bool false), 1, 1) := by kernel_rfl
theorem len1_fI (x : Int) : (fI x).length = 1 := rfl
theorem len1_fB (x : Bool) : (fB x).length = 1 := rfl

def refP (b : Nat) (now : Int) (rs : List RefD) : HProp :=
  ex fun v : Value × Value × Value => all [own b (.cells #[.int .i64 now, v.1, v.2.1, v.2.2] 59 (0, 0)), rowT fH v.1 70 2 (rs.map RefD.h), rowT fI v.2.1 3 1 (rs.map RefD.by_), rowT fB v.2.2 4 1 (rs.map RefD.gone)]
theorem refP_I {w : World} {l : List HProp} {b : Nat} {now : Int} {rs : List RefD} {v1 v2 v3 : Value}
    (hs : Sat w (own b (.cells #[.int .i64 now, v1, v2, v3] 59 (0, 0)) :: rowT fH v1 70 2 (rs.map RefD.h) :: rowT fI v2 3 1 (rs.map RefD.by_) :: rowT fB v3 4 1 (rs.map RefD.gone) :: l)) : Sat w (refP b now rs :: l) :=
  Sat.exI (v1, v2, v3) (Sat.allI hs)
theorem refP_E {w : World} {l : List HProp} {b : Nat} {now : Int} {rs : List RefD} (hs : Sat w (refP b now rs :: l)) :
    ∃ v1 v2 v3, Sat w (own b (.cells #[.int .i64 now, v1, v2, v3] 59 (0, 0)) :: rowT fH v1 70 2 (rs.map RefD.h) :: rowT fI v2 3 1 (rs.map RefD.by_) :: rowT fB v3 4 1 (rs.map RefD.gone) :: l) := by
  obtain ⟨⟨v1, v2, v3⟩, h⟩ := hs.exE
  exact ⟨v1, v2, v3, h.allE⟩

theorem Sat.tCell1 {α : Type} {f : α → List Value} {w : World} {e : TypeId} {n : Nat} {xs : List α} {l : List HProp} {g off cap : Nat} (hf : ∀ x, (f x).length = 1) (hs : Sat w (rowT f (.slice (some ⟨g, off, none⟩) n cap) e 1 xs :: l)) (i : Nat) {x : α} {u : Value} (hx : xs[i]? = some x) (hu : (f x)[0]? = some u) :
    w.cell? ⟨g, off + i, none⟩ = some u := by
  have := hs.tCell hf i 0 hx hu
  simpa using this

set_option maxRecDepth 100000 in
set_option maxHeartbeats 1000000 in
theorem ref_waiting {w : World} {l : List HProp} {b : Nat} {now : Int} {rs : List RefD} (hs : Sat w (refP b now rs :: l)) (hm : rs.length ≤ 1000000) :
    Calls Try.prog 45 #[.pointer (some ⟨b, 0, none⟩)] w fun e w' => ∃ vo, e = .returned vo ∧ Sat w' (rowT fH vo 70 2 ((rs.filter fun r => !r.gone).map RefD.h) :: refP b now rs :: l) ∧ Kp w w' := by
  obtain ⟨i0, hi, hz0, hz1, hz2⟩ := info_parts Try.infoHandle
  obtain ⟨v1, v2, v3, hv⟩ := refP_E hs
  obtain ⟨a1, p1, e1⟩ := (hv.pull 1).tLen
  obtain ⟨a3, p3, e3⟩ := (hv.pull 3).tLen
  rw [List.length_map] at e1 e3
  subst e1 e3
  have hbl := hv.lt
  clear hs
  go_enter Try.func45, Try.ntmps45
  go_wp2_with fail
  go_loopw [3, 4] (fun vo i wr => ∃ (k : Nat) (out : List HanD), k ≤ rs.length ∧ i = .int .i64 k ∧ Hid (out = ((rs.take k).filter fun r => !r.gone).map RefD.h) ∧ out.length ≤ k ∧ Sat wr (rowT fH vo 70 2 out :: own b (.cells #[.int .i64 now, .slice a1 rs.length p1, v2, .slice a3 rs.length p3] 59 (0, 0)) :: rowT fH (.slice a1 rs.length p1) 70 2 (rs.map RefD.h) :: rowT fI v2 3 1 (rs.map RefD.by_) :: rowT fB (.slice a3 rs.length p3) 4 1 (rs.map RefD.gone) :: l) ∧ Kp w wr) (fun _ i _ => rs.length - (intOf i).toNat)
  case atStart => exact ⟨0, [], by omega, rfl, rfl, by simp, hv.tNil _ _ _, Kp.refl w⟩
  case round =>
    clear hv
    obtain ⟨k, out, hk, rfl, hout, hol, h2, k2⟩ := hrel
    obtain ⟨oa, oc, rfl⟩ := h2.tLen
    have c1 := (h2.pull 1).cell 1
    have c3 := (h2.pull 1).cell 3
    simp at c1 c3
    by_cases hlt : k < rs.length
    case neg =>
      have hke : k = rs.length := by omega
      have hout2 := hout.out
      rw [hke, List.take_length] at hout2
      replace hout2 := Lib.hid hout2
      clear hke
      go_wp2_with fail
      go_ret
      refine ⟨.slice oa out.length oc, rfl, ?_, k2⟩
      rw [← hout2.out]
      exact (refP_I (h2.push 4)).pull 1
    obtain ⟨x, hx⟩ : ∃ x, rs[k]? = some x := ⟨rs[k], by simp⟩
    have hxh : (rs.map RefD.h)[k]? = some x.h := by rw [List.getElem?_map, hx]; rfl
    have hxg : (rs.map RefD.gone)[k]? = some x.gone := by rw [List.getElem?_map, hx]; rfl
    rcases (h2.pull 2).tForm with ⟨he, hw0⟩ | ⟨g, off, cap, he⟩
    · rw [List.map_eq_nil_iff.1 hw0] at hlt; simp at hlt
    simp only [Value.slice.injEq, List.length_map, true_and] at he
    obtain ⟨rfl, rfl⟩ := he
    rcases (h2.pull 4).tForm with ⟨he, hw0⟩ | ⟨g3, off3, cap3, he⟩
    · rw [List.map_eq_nil_iff.1 hw0] at hlt; simp at hlt
    simp only [Value.slice.injEq, List.length_map, true_and] at he
    obtain ⟨rfl, rfl⟩ := he
    have q0 := (h2.pull 2).tCell len_fH k 0 hxh rfl
    have q1 := (h2.pull 2).tCell len_fH k 1 hxh rfl
    have q3 := (h2.pull 4).tCell1 len1_fB k hxg rfl
    rw [Nat.add_zero] at q0
    have hnext := take_snoc' hx
    have j0 : (0 : Int) ≤ (k : Int) := by omega
    have j1 : (k : Int) < (rs.length : Int) := by omega
    clear hx hxh hxg
    by_cases hg : x.gone = true
    · have hout3 : Hid (out = ((rs.take (k + 1)).filter fun r => !r.gone).map RefD.h) := by
        show _ = _
        rw [hnext, List.filter_append, List.map_append, hout.out]
        simp [hg]
      rw [hg] at q3
      clear hnext
      go_wp2_with fail
      go_roundw
      case rel => exact ⟨k + 1, out, by omega, by go_num, hout3, by omega, h2, k2⟩
      case measure => simp [intOf]; omega
    · have hg' : x.gone = false := by simpa using hg
      have hout3 : Hid (out ++ [x.h] = ((rs.take (k + 1)).filter fun r => !r.gone).map RefD.h) := by
        show _ = _
        rw [hnext, List.filter_append, List.map_append, hout.out]
        simp [hg']
      rw [hg'] at q3
      have hB := h2.alloc (.cells #[.int .i64 x.h.slot, .int .i64 x.h.gen] 70)
      clear hnext hg
      go_wp2_with (at_builtin; refine wpList_append_lit rfl (.tmp 22) (.tmp 30) 56 rfl 70 i0 _ 2 16 Try.underlying56 hi hz0 hz1 hz2 rfl (by decide) _ _ _ _ _ _ _ rfl hB.swap 1 1 rfl rfl rfl ?c3 ?c4 ?c5)
      case c3 => unfold maxLen; omega
      case c4 => omega
      case c5 =>
        intro v' w3 hs3 hk3
        have h4 := Sat.tSnoc (f := fH) (x := x.h) hs3 rfl
        have h5 := (h4.pull 1).tail
        go_wp2_with fail
        go_roundw
        case rel => exact ⟨k + 1, out ++ [x.h], by omega, by go_num, hout3, by simp; omega, h5, k2.trans (((Kp.refl _).alloc _).trans hk3)⟩
        case measure => simp [intOf]; omega

end Go.Proofs.Ytkcgbenhnhbhhaa

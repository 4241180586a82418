import Derived.Test.YtkcgbenhnhbhhaaRef
namespace Go.Proofs.Ytkcgbenhnhbhhaa
open Go Go.RowKit
set_option linter.unusedVariables false
set_option linter.unusedSimpArgs false

def goes (now least : Int) (r : RefD) : Bool := !r.gone && decide (r.by_ < least) && decide (r.by_ + 2 ≤ now)
def upd (now least : Int) (r : RefD) : RefD := if goes now least r then { r with gone := true } else r
def gsOf (now least : Int) (rs : List RefD) (k : Nat) : List Bool := (rs.take k).map (fun r => (upd now least r).gone) ++ (rs.drop k).map RefD.gone
theorem gsOf_len (now least : Int) (rs : List RefD) (k : Nat) : (gsOf now least rs k).length = rs.length := by
  simp [gsOf]; omega
theorem gsOf_get {now least : Int} {rs : List RefD} {k : Nat} {x : RefD} (hx : rs[k]? = some x) : (gsOf now least rs k)[k]? = some x.gone := by
  have hk := (List.getElem?_eq_some_iff.1 hx).1
  unfold gsOf
  rw [List.getElem?_append_right (by simp; omega), drop_cons' hx]
  simp [Nat.min_eq_left (Nat.le_of_lt hk)]
theorem gsOf_set {now least : Int} {rs : List RefD} {k : Nat} {x : RefD} (hx : rs[k]? = some x) : gsOf now least rs (k + 1) = (gsOf now least rs k).set k (upd now least x).gone := by
  have hk := (List.getElem?_eq_some_iff.1 hx).1
  unfold gsOf
  rw [take_snoc' hx, drop_cons' hx, List.set_append_right _ _ (by simp; omega)]
  simp [Nat.min_eq_left (Nat.le_of_lt hk)]
theorem gsOf_same {now least : Int} {rs : List RefD} {k : Nat} {x : RefD} (hx : rs[k]? = some x) (hg : goes now least x = false) : gsOf now least rs (k + 1) = gsOf now least rs k := by
  rw [gsOf_set hx]
  have : (upd now least x).gone = x.gone := by simp [upd, hg]
  rw [this]
  have h2 := gsOf_get (now := now) (least := least) hx
  obtain ⟨hk, hv⟩ := List.getElem?_eq_some_iff.1 h2
  rw [← hv]
  exact List.set_getElem_self hk
theorem upd_h (now least : Int) (rs : List RefD) : (rs.map (upd now least)).map RefD.h = rs.map RefD.h := by
  rw [List.map_map]; congr 1; funext r; simp only [Function.comp, upd]; split <;> rfl
theorem upd_by (now least : Int) (rs : List RefD) : (rs.map (upd now least)).map RefD.by_ = rs.map RefD.by_ := by
  rw [List.map_map]; congr 1; funext r; simp only [Function.comp, upd]; split <;> rfl
theorem upd_gs (now least : Int) (rs : List RefD) : (rs.map (upd now least)).map RefD.gone = gsOf now least rs rs.length := by
  simp [gsOf, Function.comp_def]

theorem Sat.tSet1 {α : Type} {f : α → List Value} {w : World} {e : TypeId} {xs : List α} {l : List HProp} {g off n cap : Nat} (hf : ∀ x, (f x).length = 1) (hs : Sat w (rowT f (.slice (some ⟨g, off, none⟩) n cap) e 1 xs :: l)) (i : Nat) (y : α) (u : Value) (hu : f y = [u]) (hi : i < xs.length) :
    Sat (w.setCell ⟨g, off + i, none⟩ u) (rowT f (.slice (some ⟨g, off, none⟩) n cap) e 1 (xs.set i y) :: l) := by
  have h := hs.tPut' hf i y hi
  rw [hu, Nat.mul_one] at h
  exact h

set_option maxRecDepth 100000 in
set_option maxHeartbeats 2000000 in
theorem ref_free {w : World} {l : List HProp} {b : Nat} {now least : Int} {rs : List RefD} (hs : Sat w (refP b now rs :: l)) (hm : rs.length ≤ 1000000) (hby : ∀ r ∈ rs, 0 ≤ r.by_ ∧ r.by_ < 1000000) :
    Calls Try.prog 41 #[.pointer (some ⟨b, 0, none⟩), .int .i64 least] w fun e w' => ∃ vo, e = .returned vo ∧ Sat w' (rowT fH vo 70 2 ((rs.filter (goes now least)).map RefD.h) :: refP b now (rs.map (upd now least)) :: l) ∧ Kp w w' := by
  obtain ⟨i0, hi, hz0, hz1, hz2⟩ := info_parts Try.infoHandle
  obtain ⟨v1, v2, v3, hv⟩ := refP_E hs
  obtain ⟨a1, p1, e1⟩ := (hv.pull 1).tLen
  obtain ⟨a2, p2, e2⟩ := (hv.pull 2).tLen
  obtain ⟨a3, p3, e3⟩ := (hv.pull 3).tLen
  rw [List.length_map] at e1 e2 e3
  subst e1 e2 e3
  have hbl := hv.lt
  have HBY := Lib.hid hby
  clear hs hby
  go_enter Try.func41, Try.ntmps41
  go_wp2_with fail
  go_loopw [5, 6] (fun vo i wr => ∃ (k : Nat) (out : List HanD) (gs : List Bool), k ≤ rs.length ∧ i = .int .i64 k ∧ Hid (out = ((rs.take k).filter (goes now least)).map RefD.h) ∧ out.length ≤ k ∧ Hid (gs = gsOf now least rs k) ∧ Sat wr (rowT fH vo 70 2 out :: own b (.cells #[.int .i64 now, .slice a1 rs.length p1, .slice a2 rs.length p2, .slice a3 rs.length p3] 59 (0, 0)) :: rowT fH (.slice a1 rs.length p1) 70 2 (rs.map RefD.h) :: rowT fI (.slice a2 rs.length p2) 3 1 (rs.map RefD.by_) :: rowT fB (.slice a3 rs.length p3) 4 1 gs :: l) ∧ Kp w wr) (fun _ i _ => rs.length - (intOf i).toNat)
  case atStart => exact ⟨0, [], rs.map RefD.gone, by omega, rfl, rfl, by simp, by simp [Hid, gsOf], hv.tNil _ _ _, Kp.refl w⟩
  case round =>
    clear hv
    obtain ⟨k, out, gs, hk, rfl, hout, hol, hgs, h2, k2⟩ := hrel
    obtain ⟨oa, oc, rfl⟩ := h2.tLen
    have c0 := (h2.pull 1).cell 0
    have c1 := (h2.pull 1).cell 1
    have c2 := (h2.pull 1).cell 2
    have c3 := (h2.pull 1).cell 3
    simp at c0 c1 c2 c3
    by_cases hlt : k < rs.length
    case neg =>
      have hke : k = rs.length := by omega
      have hout2 := hout.out
      have hgs2 := hgs.out
      rw [hke, List.take_length] at hout2
      rw [hke, ← upd_gs] at hgs2
      replace hout2 := Lib.hid hout2
      replace hgs2 := Lib.hid hgs2
      clear hke
      go_wp2_with fail
      go_ret
      refine ⟨.slice oa out.length oc, rfl, ?_, k2⟩
      rw [← hout2.out]
      have h3 := h2.push 4
      rw [hgs2.out, ← upd_h now least, ← upd_by now least] at h3
      exact (refP_I h3).pull 1
    obtain ⟨x, hx⟩ : ∃ x, rs[k]? = some x := ⟨rs[k], by simp⟩
    have hxh : (rs.map RefD.h)[k]? = some x.h := by rw [List.getElem?_map, hx]; rfl
    have hxb : (rs.map RefD.by_)[k]? = some x.by_ := by rw [List.getElem?_map, hx]; rfl
    have hxg : gs[k]? = some x.gone := by rw [hgs.out]; exact gsOf_get hx
    have hgl : Hid (gs.length = rs.length) := by show _ = _; rw [hgs.out]; exact gsOf_len _ _ _ _
    obtain ⟨hb0, hb1⟩ := HBY.out x (List.mem_of_getElem? hx)
    rcases (h2.pull 2).tForm with ⟨he, hw0⟩ | ⟨g, off, cap, he⟩
    · rw [List.map_eq_nil_iff.1 hw0] at hlt; simp at hlt
    simp only [Value.slice.injEq, List.length_map, true_and] at he
    obtain ⟨rfl, rfl⟩ := he
    rcases (h2.pull 3).tForm with ⟨he, hw0⟩ | ⟨g2, off2, cap2, he⟩
    · rw [List.map_eq_nil_iff.1 hw0] at hlt; simp at hlt
    simp only [Value.slice.injEq, List.length_map, true_and] at he
    obtain ⟨rfl, rfl⟩ := he
    rcases (h2.pull 4).tForm with ⟨he, hw0⟩ | ⟨g3, off3, cap3, he⟩
    · have := hgl.out; rw [hw0] at this; simp at this; omega
    simp only [Value.slice.injEq, hgl.out, true_and] at he
    obtain ⟨rfl, rfl⟩ := he
    have q0 := (h2.pull 2).tCell len_fH k 0 hxh rfl
    have q1 := (h2.pull 2).tCell len_fH k 1 hxh rfl
    have q2 := (h2.pull 3).tCell1 len1_fI k hxb rfl
    have q3 := (h2.pull 4).tCell1 len1_fB k hxg rfl
    rw [Nat.add_zero] at q0
    have hnext := take_snoc' hx
    have j0 : (0 : Int) ≤ (k : Int) := by omega
    have j1 : (k : Int) < (rs.length : Int) := by omega
    have hwr : IntKind.i64.wrap (x.by_ + 2) = x.by_ + 2 := IntWalk.i64_in _ (by omega)
    have HX := Lib.hid hx
    clear hx hxh hxb hxg
    have hstay : goes now least x = false → Hid (out = ((rs.take (k + 1)).filter (goes now least)).map RefD.h) ∧ Hid (gs = gsOf now least rs (k + 1)) := fun hg => by
      refine ⟨?_, ?_⟩
      · show _ = _
        rw [hnext, List.filter_append, List.map_append, hout.out]
        simp [hg]
      · show _ = _
        rw [gsOf_same HX.out hg, hgs.out]
    by_cases hg : x.gone = true
    · obtain ⟨hout3, hgs3⟩ := hstay (by simp [goes, hg])
      rw [hg] at q3
      clear hnext hstay
      go_wp2_with fail
      go_quiet (fail)
      go_wp2_with fail
      go_roundw
      case rel => exact ⟨k + 1, out, gs, by omega, by go_num, hout3, by omega, hgs3, h2.drewN _, k2.drewN _⟩
      case measure => simp [intOf]; omega
    have hg' : x.gone = false := by simpa using hg
    rw [hg'] at q3
    clear hg
    by_cases hl : x.by_ < least
    case neg =>
      obtain ⟨hout3, hgs3⟩ := hstay (by simp [goes, hl])
      have hd : decide (x.by_ < least) = false := by simpa using hl
      clear hnext hstay hl
      go_wp2_with fail
      go_quiet (fail)
      go_wp2_with fail
      go_roundw
      case rel => exact ⟨k + 1, out, gs, by omega, by go_num, hout3, by omega, hgs3, h2.drewN _, k2.drewN _⟩
      case measure => simp [intOf]; omega
    have hd : decide (x.by_ < least) = true := by simpa using hl
    by_cases hn : x.by_ + 2 ≤ now
    case neg =>
      obtain ⟨hout3, hgs3⟩ := hstay (by simp [goes, hn])
      have hd2 : decide (x.by_ + 2 ≤ now) = false := by simpa using hn
      clear hnext hstay hn hl
      go_wp2_with fail
      go_quiet (fail)
      go_wp2_with fail
      go_roundw
      case rel => exact ⟨k + 1, out, gs, by omega, by go_num, hout3, by omega, hgs3, h2.drewN _, k2.drewN _⟩
      case measure => simp [intOf]; omega
    have hd2 : decide (x.by_ + 2 ≤ now) = true := by simpa using hn
    have hgo : goes now least x = true := by simp [goes, hg', hl, hn]
    have hout3 : Hid (out ++ [x.h] = ((rs.take (k + 1)).filter (goes now least)).map RefD.h) := by
      show _ = _
      rw [hnext, List.filter_append, List.map_append, hout.out]
      simp [hgo]
    have hgs3 : Hid (gs.set k true = gsOf now least rs (k + 1)) := by
      show _ = _
      rw [gsOf_set HX.out, hgs.out]
      simp [upd, hgo]
    clear hnext hstay hn hl hgo
    go_wp2_with fail
    go_quiet (fail)
    have hG := (h2.drewN nq).pull 4
    have kG := k2.drewN nq
    generalize wr.drewN nq = wd at hG kG ⊢
    have z0 := hG.rowFree (off3 + k)
    have hk1 : k < gs.length := by rw [hgl.out]; exact hlt
    obtain ⟨y, hy⟩ : ∃ y, gs[k]? = some y := ⟨gs[k], by simp⟩
    have y0 := hG.tCell1 len1_fB k hy rfl
    clear hy
    have hG2 := hG.tSet1 len1_fB k true (.bool true) rfl hk1
    have kG2 := kG.setCell ⟨g3, off3 + k, none⟩ (.bool true)
    have c3 := (hG.pull 2).cell 3
    simp at c3
    clear q0 q1 q2 q3 c0 c1 c2 h2 hk1
    go_upto_region 7 with (fail)
    generalize wd.setCell _ _ = w3 at hG2 kG2 ⊢
    clear hG kG z0 y0 c3
    have c1 := (hG2.pull 2).cell 1
    have q0 := (hG2.pull 3).tCell len_fH k 0 (x := x.h) (by rw [List.getElem?_map, HX.out]; rfl) rfl
    have q1 := (hG2.pull 3).tCell len_fH k 1 (x := x.h) (by rw [List.getElem?_map, HX.out]; rfl) rfl
    rw [Nat.add_zero] at q0
    simp at c1
    have hB := hG2.alloc (.cells #[.int .i64 x.h.slot, .int .i64 x.h.gen] 70)
    go_wp2_with (at_builtin; refine wpList_append_lit rfl (.tmp 56) (.tmp 64) 56 rfl 70 i0 _ 2 16 Try.underlying56 hi hz0 hz1 hz2 rfl (by decide) _ _ _ _ _ _ _ rfl (hB.pull 2) 1 1 rfl rfl rfl ?c3 ?c4 ?c5)
    case c3 => unfold maxLen; omega
    case c4 => omega
    case c5 =>
      intro v' w4 hs4 hk4
      have h4 := Sat.tSnoc (f := fH) (x := x.h) hs4 rfl
      have h5 := (h4.pull 1).tail
      go_wp2_with fail
      go_roundw
      case rel => exact ⟨k + 1, out ++ [x.h], gs.set k true, by omega, by go_num, hout3, by simp; omega, hgs3, (h5.pull 1).push 4, kG2.trans (((Kp.refl _).alloc _).trans hk4)⟩
      case measure => simp [intOf]; omega

end Go.Proofs.Ytkcgbenhnhbhhaa

import Derived.Test.YtbnipieokpeadaaDoorRefT5
namespace Go.Proofs.YtbnipieokpeadaaDoor
open Go Go.RowKit
set_option linter.unusedVariables false
set_option linter.unusedSimpArgs false

set_option maxRecDepth 100000 in
theorem ref_undo_none {w : World} {l : List HProp} {t : Nat} {L : List KidD} (hs : Sat w (refP t L [] :: l)) :
    Calls Tryd.prog 32 #[.pointer (some ⟨t, 0, none⟩)] w fun e w' => e = .returned (.bool false) ∧ Sat w' (refP t L [] :: l) ∧ Kp w w' := by
  obtain ⟨v, vw, vs, hl, h⟩ := refP_E hs
  obtain ⟨wao, wcap, hvw⟩ := (h.pull 1).tLen
  have hl' : vs.length = 0 := hl
  rw [hl'] at hvw
  subst hvw
  have t1 := h.cell 1
  simp at t1
  clear hl hl'
  go_enter Tryd.func32, Tryd.ntmps32
  go_wp2_with fail
  go_ret
  exact ⟨rfl, hs, Kp.refl w⟩

set_option maxRecDepth 100000 in
set_option maxHeartbeats 2000000 in
theorem ref_undo {w : World} {l : List HProp} {t : Nat} {L L' : List KidD} {Ws : List (List KidD)} (hs : Sat w (refP t L (Ws ++ [L']) :: l)) (hn : Ws.length ≤ 1000) :
    Calls Tryd.prog 32 #[.pointer (some ⟨t, 0, none⟩)] w fun e w' => e = .returned (.bool true) ∧ Sat w' (refP t L' Ws :: l) ∧ Kp w w' := by
  obtain ⟨v, vw, vs0, hl, h⟩ := refP_E hs
  obtain ⟨vs, x, rfl⟩ : ∃ vs x, vs0 = vs ++ [x] := by
    have hne : vs0 ≠ [] := fun e => by rw [e] at hl; simp at hl
    exact ⟨vs0.dropLast, vs0.getLast hne, (List.dropLast_concat_getLast hne).symm⟩
  have hl2 : vs.length = Ws.length := by simpa using hl
  rw [zip_snoc _ _ hl2] at h
  obtain ⟨ao, cap, hv, _⟩ := (h.pull 2).poolArg (v := v) (ks := L) (List.mem_cons_self ..)
  obtain ⟨xao, xcap, hx, _⟩ := (h.pull 2).poolArg (v := x) (ks := L') (List.mem_cons_of_mem _ (List.mem_append_right _ (List.mem_singleton.2 rfl)))
  generalize L.length = q1 at hv
  generalize L'.length = q2 at hx
  subst hv hx
  rcases (h.pull 1).tForm with ⟨_, hp⟩ | ⟨g, off, wcap, hvw⟩
  · simp at hp
  obtain ⟨k, hk⟩ : ∃ k, k = vs.length := ⟨_, rfl⟩
  have hll : (vs ++ [(.slice xao q2 xcap : Value)]).length = k + 1 := by simp [hk]
  rw [hll] at hvw
  obtain ⟨n, hnk⟩ : ∃ n, n = k + 1 := ⟨_, rfl⟩
  rw [← hnk] at hvw
  subst hvw
  have hcap := (h.pull 1).tCap
  rw [hll] at hcap
  have hcap1 : n ≤ wcap := by omega
  have hcap2 := hcap.2.2
  unfold maxLen at hcap2
  have HK := Lib.hid hk
  have hk1 : k ≤ 1000 := by rw [hk, hl2]; exact hn
  have hxk : (vs ++ [(.slice xao q2 xcap : Value)])[k]? = some (.slice xao q2 xcap) := by rw [hk]; simp
  have x0 := (h.pull 1).tCell len_fV k 0 hxk rfl
  rw [Nat.mul_one, Nat.add_zero] at x0
  have t1 := h.cell 1
  have t0 := h.cell 0
  have f0 := h.free 0
  have f1 := h.free 1
  simp at t0 t1
  have hne := (h.pull 1).rowNe
  have hne0 : ((n : Int) == 0) = false := by rw [hnk]; simp; omega
  have i0' : (0 : Int) ≤ (k : Int) := by omega
  have i1' : (k : Int) < (n : Int) := by omega
  have i2' : (k : Int) ≤ (wcap : Int) := by omega
  have hsub : IntKind.i64.wrap ((n : Int) - 1) = (k : Int) := by rw [hnk]; push_cast; rw [IntWalk.i64_in _ (by omega)]; omega
  have h1 := (h.set 0 (.slice xao q2 xcap)).set 1 (.slice (some ⟨g, off, none⟩) k wcap)
  have k1 := ((Kp.refl w).setCell ⟨t, 0, none⟩ (.slice xao q2 xcap)).setCell ⟨t, 1, none⟩ (.slice (some ⟨g, off, none⟩) k wcap)
  have h2 := Sat.tShort len_fV (h1.pull 1)
  rw [← hk] at h2
  have h3 := ((((h2.push 1).pull 2).poolSub (ps' := (.slice xao q2 xcap, L') :: vs.zip Ws) (fun p hp => by
    rcases List.mem_cons.1 hp with rfl | hp
    · exact List.mem_cons_of_mem _ (List.mem_append_right _ (List.mem_singleton.2 rfl))
    · exact List.mem_cons_of_mem _ (List.mem_append_left _ hp))).push 2)
  have H3 := Lib.hid (refP_I hl2 h3)
  clear h1 h2 h3 hk hxk hll hl hl2 hs hcap hnk hcap1 HK
  go_enter Tryd.func32, Tryd.ntmps32
  go_wp2_with fail
  go_ret
  exact ⟨rfl, H3.out, k1⟩

end Go.Proofs.YtbnipieokpeadaaDoor

import Derived.Test.YtddglbjhhnipgaaGreatDoorIK
import Derived.Test.YtddglbjhhnipgaaGreatDoorII
import Derived.Test.YtddglbjhhnipgaaGreatDoorHE
namespace Go.Proofs.YtddglbjhhnipgaaGreatDoor
open Go Go.RowKit
set_option linter.unusedVariables false
set_option linter.unusedSimpArgs false
set_option maxRecDepth 100000
set_option maxHeartbeats 8000000
/-! ### what is left on the stack -/
theorem find_rest {w : World} {l : List HProp} {f : Nat} {D : FindD} (hs : Sat w (findP f D :: l)) (hS : D.stack.length ≤ 1000) (hK : D.kids.length ≤ 12) :
   Calls Tryz.prog 128 #[.pointer (some ⟨f, 0, none⟩)] w fun x w' => x = .returned (.tuple #[]) ∧ Sat w' (findP f (restF D) :: l) ∧ Kp w w' := by
 have hmf : ∀ (fn : Fn) (first cap : Array Value) (w : World), (Instr.makeFunc fn first cap).run Tryz.prog w = .ok (.func fn first cap) w := fun _ _ _ _ => rfl
 unfold restF
 obtain ⟨ans, hans⟩ : ∃ ans, popS D.stack.reverse = ans := ⟨_, rfl⟩
 rw [hans]
 have HA0 := Lib.hid hans
 have HS0 := Lib.hid hS
 clear hans hS
 go_enter Tryz.func128, Tryz.ntmps128
 go_wp2_with fail
 go_loopg [] (D.stack.length + 1) (fun gk wr => ∃ (S : List Hd), S.length < gk ∧ Hid (popS S.reverse = ans) ∧ Hid (S.length ≤ 1000) ∧ Sat wr (findP f { D with stack := S } :: l) ∧ Kp w wr)
 case atStart => exact ⟨D.stack, by omega, HA0, HS0, hs, Kp.refl w⟩
 case round =>
   obtain ⟨S, hsz, HA, HS, h2, k2⟩ := hrel
   clear hs HA0 HS0
   obtain ⟨vn, vs, vk, h3⟩ := findP_E h2
   clear h2
   rcases List.eq_nil_or_concat S with rfl | ⟨S', h, hSe⟩
   · obtain ⟨sao, scap, hv⟩ := (h3.pull 2).tLen
     simp only [List.length_nil] at hv
     subst hv
     have f13 := (h3).cell 13
     have f17 := (h3).cell 17
     have ff13 := (h3).free 13
     have ff17 := (h3).free 17
     simp [findC] at f13 f17
     have hfl := h3.lt
     have hso := kid_sortV (h3.pull 3) hK
     go_wp2_with fail
     refine hso.mono ?_
     rintro e w3 ⟨rfl, h4, k4⟩
     have h5 := findP_I (D := { D with stack := [], kids := isort klt D.kids }) (h4.push 3)
     have hen := find_end h5 (e := 0) (by decide)
     clear h4 h3 hso
     go_wp2_with fail
     refine hen.mono ?_
     rintro e w4 ⟨rfl, h6, k6⟩
     go_wp2_with fail
     go_end0
     obtain rfl : none = ans := HA.out
     exact ⟨rfl, h6, (k2.trans k4).trans k6⟩
   rw [List.concat_eq_append] at hSe
   subst hSe
   rcases (h3.pull 2).tForm with ⟨_, hp⟩ | ⟨g, off, cap, hfv⟩
   · simp at hp
   obtain ⟨k, hk⟩ : ∃ k, k = S'.length := ⟨_, rfl⟩
   have hll : (S' ++ [h]).length = k + 1 := by simp [hk]
   dsimp only at hfv
   rw [hll] at hfv
   obtain ⟨n, hnk⟩ : ∃ n, n = k + 1 := ⟨_, rfl⟩
   rw [← hnk] at hfv
   subst hfv
   have hcap := (h3.pull 2).tCap
   dsimp only at hcap
   rw [hll] at hcap
   have hcap1 : n ≤ cap := by omega
   have hcap2 := hcap.2.2
   unfold maxLen at hcap2
   have hS1 := HS.out
   rw [hll] at hS1 hsz
   have x0 := (h3.pull 2).tCell len_fH k 0 (x := h) (by rw [hk]; simp) rfl
   have x1 := (h3.pull 2).tCell len_fH k 1 (x := h) (by rw [hk]; simp) rfl
   rw [Nat.add_zero] at x0
   have f8 := (h3).cell 8
   have f9 := (h3).cell 9
   have f10 := (h3).cell 10
   have f13 := (h3).cell 13
   have ff8 := (h3).free 8
   have ff9 := (h3).free 9
   have ff10 := (h3).free 10
   have ff13 := (h3).free 13
   simp [findC] at f8 f9 f10 f13
   have hfl := h3.lt
   have hne0 : (0 : Int) < (n : Int) := by omega
   have i0' : (0 : Int) ≤ (k : Int) := by omega
   have i1' : (k : Int) < (n : Int) := by omega
   have i2' : (k : Int) ≤ (cap : Int) := by omega
   have hsub : IntKind.i64.wrap ((n : Int) - 1) = (k : Int) := by rw [hnk]; push_cast; rw [IntWalk.i64_in _ (by omega)]; omega
   have HK := Lib.hid hk
   have hnil : (h.s = 0 ∧ h.g = 0) → Hid (popS S'.reverse = ans) := fun hz => by
     have h0 := HA.out
     rw [List.reverse_append] at h0
     exact Lib.hid (by simpa [popS, hz] using h0)
   have hsome : ¬ (h.s = 0 ∧ h.g = 0) → ans = some (h, S'.reverse) := fun hz => by
     have h0 := HA.out
     rw [List.reverse_append] at h0
     rw [← h0]
     simp only [List.reverse_cons, List.reverse_nil, List.nil_append, List.singleton_append, popS]
     rw [if_neg hz]
   have HNI := Lib.hid hnil
   have HSO := Lib.hid hsome
   have hS2 : Hid (S'.length ≤ 1000) := Lib.hid (by have := HS.out; rw [hll] at this; omega)
   clear hnil hsome hk hll hnk hcap hcap1 HS hS1 HA
   go_upto_region 3 with (fail)
   have hX := h3.alloc (.cells #[.int .i64 h.s, .int .i64 h.g] 56)
   have kX := k2.alloc (.cells #[.int .i64 h.s, .int .i64 h.g] 56)
   generalize World.alloc _ _ = w3 at hX kX ⊢
   generalize wr.heap.size = H at hX ⊢
   clear x0 x1 hfl
   clear f8 ff8 f9 ff9 f10 ff10 f13 ff13
   clear h3 k2
   have f8 := (hX.pull 1).cell 8
   have f9 := (hX.pull 1).cell 9
   have f10 := (hX.pull 1).cell 10
   have f13 := (hX.pull 1).cell 13
   have ff8 := (hX.pull 1).free 8
   have ff9 := (hX.pull 1).free 9
   have ff10 := (hX.pull 1).free 10
   have ff13 := (hX.pull 1).free 13
   simp [findC] at f8 f9 f10 f13
   have hfl := (hX.pull 1).lt
   have hhl := hX.lt
   have b0 := (hX).cell 0
   have b1 := (hX).cell 1
   simp at b0 b1
   have hne := hX.ne
   have hne' := hne.symm
   have h4 := (hX.pull 1).set 13 (.slice (some ⟨g, off, none⟩) k cap)
   have k4 := kX.setCell ⟨f, 13, none⟩ (.slice (some ⟨g, off, none⟩) k cap)
   have h5 := Sat.tShort2 (f := fH) (x := h) len_fH (h4.pull 3)
   rw [← HK.out] at h5
   clear hX kX h4
   have h6 := ((h5.pull 2).tail.push 2)
   have hq : (h.s = 0 ∧ h.g = 0) ∨ (h.s == 0) = false ∨ (h.s = 0 ∧ (h.g == 0) = false) := by
     by_cases h1 : h.s = 0
     · by_cases h2 : h.g = 0
       · exact .inl ⟨h1, h2⟩
       · exact .inr (.inr ⟨h1, by rw [beq_eq_false_iff_ne]; exact h2⟩)
     · exact .inr (.inl (by rw [beq_eq_false_iff_ne]; exact h1))
   have h7 := ((h6.set 8 (.int .i64 h.s)).set 9 (.int .i64 h.g)).set 10 (nxV f .through)
   have k7 := ((k4.setCell ⟨f, 8, none⟩ (.int .i64 h.s)).setCell ⟨f, 9, none⟩ (.int .i64 h.g)).setCell ⟨f, 10, none⟩ (nxV f .through)
   unfold nxV at h7 k7
   dsimp only at h7 k7
   have H8 := Lib.hid (findP_I (D := { D with stack := S', want := h, next := .through }) h7)
   have H6 := Lib.hid (findP_I (D := { D with stack := S' }) h6)
   have K4 := Lib.hid k4
   have K7 := Lib.hid k7
   clear h5 h6 h7 k4 k7
   rcases hq with ⟨z1, z2⟩ | hq | ⟨z1, hq⟩
   · rw [z1] at b0
     rw [z2] at b1
     go_wp2_with fail
     go_roundg (k + 1)
     case measure => omega
     case rel => exact ⟨S', by rw [← HK.out]; omega, HNI.out ⟨z1, z2⟩, hS2, H6.out, K4.out⟩
   · obtain rfl := HSO.out (fun hz => by simp [hz.1] at hq)
     go_wp2_with fail
     refine bodyPost_ret (v := .tuple #[]) (by simp [results, Tryz.results128, go_sem]) rfl ⟨rfl, ?_, K7.out⟩
     unfold restA
     dsimp only
     rw [List.reverse_reverse]
     exact H8.out
   · obtain rfl := HSO.out (fun hz => by simp [hz.2] at hq)
     rw [z1] at b0
     have h8 := H8.out
     have k7 := K7.out
     rw [z1] at h8 k7
     have H9 := Lib.hid h8
     have K9 := Lib.hid k7
     clear h8 k7
     go_wp2_with fail
     refine bodyPost_ret (v := .tuple #[]) (by simp [results, Tryz.results128, go_sem]) rfl ⟨rfl, ?_, K9.out⟩
     unfold restA
     dsimp only
     rw [List.reverse_reverse]
     exact H9.out
/-! ### what comes next -/
theorem restF_wn (D : FindD) (h : Hd) (nx : Nx) : restF { D with want := h, next := nx } = restF D := by
 unfold restF
 dsimp only
 cases popS D.stack.reverse with
 | none => rfl
 | some p => rfl
theorem segF_wn (D : FindD) (h : Hd) (nx : Nx) : segF { D with want := h, next := nx } = segF D := by
 obtain ⟨v, list, names, a, wt, n, met, found, stack, e, ver, node, kids, loads⟩ := D
 unfold segF
 dsimp only
 cases names with
 | nil =>
   dsimp only
   split
   · split
     · exact restF_wn ⟨v, list, [], a, wt, n, 0, false, stack, e, ver, node, kids, loads⟩ h nx
     · rfl
   · rfl
 | cons x r =>
   dsimp only
   split <;> rfl
theorem bottomF_wn (D : FindD) (h : Hd) (nx : Nx) : bottomF { D with want := h, next := nx } = bottomF D := by
 obtain ⟨v, list, names, a, wt, n, met, found, stack, e, ver, node, kids, loads⟩ := D
 unfold bottomF
 dsimp only
 cases names with
 | nil => exact restF_wn ⟨v, list, [], a, wt, n, met, found, stack, e, ver, node, kids, loads⟩ h nx
 | cons x r =>
   dsimp only
   split
   · exact segF_wn ⟨v, list, r, met, wt, n, met, found, stack, e, ver, node, kids, loads⟩ h nx
   · rfl
/-- Where the name wasn't met. -/
theorem find_bottom0 {w : World} {l : List HProp} {f : Nat} {D : FindD} (hs : Sat w (findP f D :: l)) (hS : D.stack.length ≤ 1000) (hK : D.kids.length ≤ 12) (h0 : D.names = [] ∨ D.found = false) :
   Calls Tryz.prog 127 #[.pointer (some ⟨f, 0, none⟩)] w fun x w' => x = .returned (.tuple #[]) ∧ Sat w' (findP f (bottomF D) :: l) ∧ Kp w w' := by
 obtain ⟨vn, vs, vk, h1⟩ := findP_E hs
 have hfl := h1.lt
 obtain ⟨nao, ncap, hv⟩ := (h1.pull 1).tLen
 cases hn : D.names with
 | nil =>
   have hre := find_rest hs hS hK
   have e0 : bottomF D = restF D := by unfold bottomF; rw [hn]
   rw [e0]
   rw [hn] at hv
   simp only [List.length_nil] at hv
   subst hv
   have f6 := (h1).cell 6
   have ff6 := (h1).free 6
   simp [findC] at f6
   clear h1 hs h0 e0
   go_enter Tryz.func127, Tryz.ntmps127
   go_wp2_with fail
   refine hre.mono ?_
   rintro e w2 ⟨rfl, h2, k2⟩
   go_wp2_with fail
   exact bodyPost_ret (v := .tuple #[]) (by simp [results, Tryz.results127, go_sem]) rfl ⟨rfl, h2, k2⟩
 | cons x r =>
   have hfo : D.found = false := by
     rcases h0 with h0 | h0
     · rw [hn] at h0; cases h0
     · exact h0
   have hen := find_end hs (e := 9) (by decide)
   have e0 : bottomF D = endF 9 D := by unfold bottomF; rw [hn]; dsimp only; rw [hfo]; rfl
   rw [e0]
   rw [hn] at hv
   obtain ⟨n, hnn⟩ : ∃ n, n = (x :: r).length := ⟨_, rfl⟩
   rw [← hnn] at hv
   subst hv
   have hn1 : ((n : Int) == 0) = false := by rw [beq_eq_false_iff_ne, hnn]; simp; omega
   have f6 := (h1).cell 6
   have f12 := (h1).cell 12
   have ff6 := (h1).free 6
   have ff12 := (h1).free 12
   simp [findC, hfo] at f6 f12
   clear h1 hs h0 e0 hnn
   go_enter Tryz.func127, Tryz.ntmps127
   go_wp2_with fail
   refine hen.mono ?_
   rintro e w2 ⟨rfl, h2, k2⟩
   go_wp2_with fail
   exact bodyPost_ret (v := .tuple #[]) (by simp [results, Tryz.results127, go_sem]) rfl ⟨rfl, h2, k2⟩
def BotOk (f : Nat) (D : FindD) : Prop := ∀ (W : World) (l' : List HProp), Sat W (findP f D :: l') → Calls Tryz.prog 127 #[.pointer (some ⟨f, 0, none⟩)] W fun x w' => x = .returned (.tuple #[]) ∧ Sat w' (findP f (bottomF D) :: l') ∧ Kp W w'
theorem find_go_down_of {w : World} {l : List HProp} {f : Nat} {D : FindD} {h : Hd} (hs : Sat w (findP f D :: l)) (hb : BotOk f { D with want := h, next := .down }) :
   Calls Tryz.prog 101 #[.pointer (some ⟨f, 0, none⟩), .agg #[.int .i64 h.s, .int .i64 h.g], .func (.func 102) #[.pointer (some ⟨f, 0, none⟩)] #[]] w fun x w' => x = .returned (.tuple #[]) ∧ Sat w' (findP f (goF h .down D) :: l) ∧ Kp w w' := by
 obtain ⟨vn, vs, vk, h1⟩ := findP_E hs
 have hB := h1.alloc (.cells #[.int .i64 h.s, .int .i64 h.g] 56)
 have kB := (Kp.refl w).alloc (.cells #[.int .i64 h.s, .int .i64 h.g] 56)
 have HB := Lib.hid hb
 clear hb h1 hs
 have hgo : (h.s = 0 ∧ h.g = 0) → goF h .down D = bottomF { D with want := h, next := .down } := fun hz => by unfold goF; rw [if_pos hz]; exact (bottomF_wn D h .down).symm
 have hgn : ¬ (h.s = 0 ∧ h.g = 0) → goF h .down D = { D with want := h, next := .down } := fun hz => by unfold goF; rw [if_neg hz]
 generalize goF h .down D = R at hgo hgn ⊢
 have HGO := Lib.hid hgo
 have HGN := Lib.hid hgn
 clear hgo hgn
 have hq : (h.s = 0 ∧ h.g = 0) ∨ (h.s == 0) = false ∨ (h.s = 0 ∧ (h.g == 0) = false) := by
   by_cases h1 : h.s = 0
   · by_cases h2 : h.g = 0
     · exact .inl ⟨h1, h2⟩
     · exact .inr (.inr ⟨h1, by rw [beq_eq_false_iff_ne]; exact h2⟩)
   · exact .inr (.inl (by rw [beq_eq_false_iff_ne]; exact h1))
 obtain ⟨s, g⟩ := h
 dsimp only at hq hB kB HB HGO HGN ⊢
 go_enter Tryz.func101, Tryz.ntmps101
 go_upto_region 1 with (fail)
 generalize World.alloc _ _ = w1 at hB kB ⊢
 generalize w.heap.size = B at hB ⊢
 have b0 := (hB).cell 0
 have b1 := (hB).cell 1
 simp at b0 b1
 have hfl := (hB.pull 1).lt
 have f8 := (hB.pull 1).cell 8
 have f9 := (hB.pull 1).cell 9
 have f10 := (hB.pull 1).cell 10
 have ff8 := (hB.pull 1).free 8
 have ff9 := (hB.pull 1).free 9
 have ff10 := (hB.pull 1).free 10
 simp [findC] at f8 f9 f10
 have h2 := findP_I ((((((hB.pull 1).set 8 (.int .i64 s)).set 9 (.int .i64 g)).set 10 (nxV f .down)).pull 1).tail) (D := { D with want := ⟨s, g⟩, next := .down })
 have k2 := ((kB.setCell ⟨f, 8, none⟩ (.int .i64 s)).setCell ⟨f, 9, none⟩ (.int .i64 g)).setCell ⟨f, 10, none⟩ (nxV f .down)
 unfold nxV at h2 k2
 dsimp only at h2 k2
 clear hB kB
 rcases hq with ⟨rfl, rfl⟩ | hq | ⟨rfl, hq⟩
 · have hbo := HB.out _ _ h2
   clear h2
   go_wp2_with fail
   refine hbo.mono ?_
   rintro e w3 ⟨rfl, h3, k3⟩
   go_wp2_with fail
   go_end0
   rw [HGO.out ⟨trivial, trivial⟩]
   exact ⟨rfl, h3, k2.trans k3⟩
 · go_wp2_with fail
   go_end0
   rw [HGN.out (fun hz => by simp [hz.1] at hq)]
   exact ⟨rfl, h2, k2⟩
 · go_wp2_with fail
   go_end0
   rw [HGN.out (fun hz => by simp [hz.2] at hq)]
   exact ⟨rfl, h2, k2⟩
theorem find_go_through_of {w : World} {l : List HProp} {f : Nat} {D : FindD} {h : Hd} (hs : Sat w (findP f D :: l)) (hb : BotOk f { D with want := h, next := .through }) :
   Calls Tryz.prog 101 #[.pointer (some ⟨f, 0, none⟩), .agg #[.int .i64 h.s, .int .i64 h.g], .func (.func 103) #[.pointer (some ⟨f, 0, none⟩)] #[]] w fun x w' => x = .returned (.tuple #[]) ∧ Sat w' (findP f (goF h .through D) :: l) ∧ Kp w w' := by
 obtain ⟨vn, vs, vk, h1⟩ := findP_E hs
 have hB := h1.alloc (.cells #[.int .i64 h.s, .int .i64 h.g] 56)
 have kB := (Kp.refl w).alloc (.cells #[.int .i64 h.s, .int .i64 h.g] 56)
 have HB := Lib.hid hb
 clear hb h1 hs
 have hgo : (h.s = 0 ∧ h.g = 0) → goF h .through D = bottomF { D with want := h, next := .through } := fun hz => by unfold goF; rw [if_pos hz]; exact (bottomF_wn D h .through).symm
 have hgn : ¬ (h.s = 0 ∧ h.g = 0) → goF h .through D = { D with want := h, next := .through } := fun hz => by unfold goF; rw [if_neg hz]
 generalize goF h .through D = R at hgo hgn ⊢
 have HGO := Lib.hid hgo
 have HGN := Lib.hid hgn
 clear hgo hgn
 have hq : (h.s = 0 ∧ h.g = 0) ∨ (h.s == 0) = false ∨ (h.s = 0 ∧ (h.g == 0) = false) := by
   by_cases h1 : h.s = 0
   · by_cases h2 : h.g = 0
     · exact .inl ⟨h1, h2⟩
     · exact .inr (.inr ⟨h1, by rw [beq_eq_false_iff_ne]; exact h2⟩)
   · exact .inr (.inl (by rw [beq_eq_false_iff_ne]; exact h1))
 obtain ⟨s, g⟩ := h
 dsimp only at hq hB kB HB HGO HGN ⊢
 go_enter Tryz.func101, Tryz.ntmps101
 go_upto_region 1 with (fail)
 generalize World.alloc _ _ = w1 at hB kB ⊢
 generalize w.heap.size = B at hB ⊢
 have b0 := (hB).cell 0
 have b1 := (hB).cell 1
 simp at b0 b1
 have hfl := (hB.pull 1).lt
 have f8 := (hB.pull 1).cell 8
 have f9 := (hB.pull 1).cell 9
 have f10 := (hB.pull 1).cell 10
 have ff8 := (hB.pull 1).free 8
 have ff9 := (hB.pull 1).free 9
 have ff10 := (hB.pull 1).free 10
 simp [findC] at f8 f9 f10
 have h2 := findP_I ((((((hB.pull 1).set 8 (.int .i64 s)).set 9 (.int .i64 g)).set 10 (nxV f .through)).pull 1).tail) (D := { D with want := ⟨s, g⟩, next := .through })
 have k2 := ((kB.setCell ⟨f, 8, none⟩ (.int .i64 s)).setCell ⟨f, 9, none⟩ (.int .i64 g)).setCell ⟨f, 10, none⟩ (nxV f .through)
 unfold nxV at h2 k2
 dsimp only at h2 k2
 clear hB kB
 rcases hq with ⟨rfl, rfl⟩ | hq | ⟨rfl, hq⟩
 · have hbo := HB.out _ _ h2
   clear h2
   go_wp2_with fail
   refine hbo.mono ?_
   rintro e w3 ⟨rfl, h3, k3⟩
   go_wp2_with fail
   go_end0
   rw [HGO.out ⟨trivial, trivial⟩]
   exact ⟨rfl, h3, k2.trans k3⟩
 · go_wp2_with fail
   go_end0
   rw [HGN.out (fun hz => by simp [hz.1] at hq)]
   exact ⟨rfl, h2, k2⟩
 · go_wp2_with fail
   go_end0
   rw [HGN.out (fun hz => by simp [hz.2] at hq)]
   exact ⟨rfl, h2, k2⟩
theorem bot0_ok {f : Nat} {D : FindD} (hS : D.stack.length ≤ 1000) (hK : D.kids.length ≤ 12) (h0 : D.names = [] ∨ D.found = false) : BotOk f D := fun W l' hW => find_bottom0 hW hS hK h0
theorem segF_down {D : FindD} {x : ByteArray} {r : List ByteArray} (hn : D.names = x :: r) : segF D = goF (rootV D.v) .down { D with met := 0, found := false } := by
 unfold segF goF bottomF rootV
 dsimp only
 rw [hn]
 dsimp only
 split <;> rfl
theorem segF_through {D : FindD} (hn : D.names = []) (hl : D.list = true) : segF D = goF (rootV D.v) .through { D with met := 0, found := false } := by
 unfold segF goF bottomF rootV
 dsimp only
 rw [hn]
 dsimp only
 rw [hl, if_pos rfl]
theorem segF_done {D : FindD} (hn : D.names = []) (hl : D.list = false) : segF D = endF 0 { D with met := 0, found := false } := by
 unfold segF
 rw [hn]
 dsimp only
 rw [hl, if_neg (by simp)]
theorem find_segment {w : World} {l : List HProp} {f : Nat} {D : FindD} (hs : Sat w (findP f D :: l)) (hS : D.stack.length ≤ 1000) (hK : D.kids.length ≤ 12) :
   Calls Tryz.prog 75 #[.pointer (some ⟨f, 0, none⟩)] w fun x w' => x = .returned (.tuple #[]) ∧ Sat w' (findP f (segF D) :: l) ∧ Kp w w' := by
 have hmf : ∀ (fn : Fn) (first cap : Array Value) (w : World), (Instr.makeFunc fn first cap).run Tryz.prog w = .ok (.func fn first cap) w := fun _ _ _ _ => rfl
 cases hn : D.names with
 | nil =>
   cases hl : D.list with
   | false => rw [segF_done hn hl]; exact find_segment_done hs hn hl
   | true =>
     rw [segF_through hn hl]
     obtain ⟨vn, vs, vk, h1⟩ := findP_E hs
     obtain ⟨nao, ncap, hv⟩ := (h1.pull 1).tLen
     rw [hn] at hv
     simp only [List.length_nil] at hv
     subst hv
     have h2 := (h1.set 11 (.int .i64 0)).set 12 (.bool false)
     have k2 := ((Kp.refl w).setCell ⟨f, 11, none⟩ (.int .i64 0)).setCell ⟨f, 12, none⟩ (.bool false)
     have h3 := findP_I (D := { D with met := 0, found := false }) h2
     have hgo := find_go_through_of (h := rootV D.v) h3 (bot0_ok hS hK (.inl hn))
     unfold rootV at hgo ⊢
     dsimp only at hgo
     have f1 := (h1).cell 1
     have f2 := (h1).cell 2
     have f5 := (h1).cell 5
     have f6 := (h1).cell 6
     have f11 := (h1).cell 11
     have f12 := (h1).cell 12
     have ff1 := (h1).free 1
     have ff2 := (h1).free 2
     have ff5 := (h1).free 5
     have ff6 := (h1).free 6
     have ff11 := (h1).free 11
     have ff12 := (h1).free 12
     simp [findC, hl] at f1 f2 f5 f6 f11 f12
     have hfl := h1.lt
     have HE := Lib.hid hgo
     have KE := Lib.hid k2
     clear h1 h2 h3 k2 hgo hs
     go_enter Tryz.func75, Tryz.ntmps75
     go_wp2_with fail
     refine HE.out.mono ?_
     rintro e w1 ⟨rfl, h4, k4⟩
     go_wp2_with fail
     go_end0
     exact ⟨rfl, h4, KE.out.trans k4⟩
 | cons x r =>
   rw [segF_down hn]
   obtain ⟨vn, vs, vk, h1⟩ := findP_E hs
   obtain ⟨nao, ncap, hv⟩ := (h1.pull 1).tLen
   rw [hn] at hv
   obtain ⟨n, hnn⟩ : ∃ n, n = (x :: r).length := ⟨_, rfl⟩
   rw [← hnn] at hv
   subst hv
   have hn1 : (0 : Int) < (n : Int) := by rw [hnn]; simp
   have h2 := (h1.set 11 (.int .i64 0)).set 12 (.bool false)
   have k2 := ((Kp.refl w).setCell ⟨f, 11, none⟩ (.int .i64 0)).setCell ⟨f, 12, none⟩ (.bool false)
   have h3 := findP_I (D := { D with met := 0, found := false }) h2
   have hgo := find_go_down_of (h := rootV D.v) h3 (bot0_ok hS hK (.inr rfl))
   unfold rootV at hgo ⊢
   dsimp only at hgo
   have f1 := (h1).cell 1
   have f2 := (h1).cell 2
   have f5 := (h1).cell 5
   have f6 := (h1).cell 6
   have f11 := (h1).cell 11
   have f12 := (h1).cell 12
   have ff1 := (h1).free 1
   have ff2 := (h1).free 2
   have ff5 := (h1).free 5
   have ff6 := (h1).free 6
   have ff11 := (h1).free 11
   have ff12 := (h1).free 12
   simp [findC] at f1 f2 f5 f6 f11 f12
   have hfl := h1.lt
   have HE := Lib.hid hgo
   have KE := Lib.hid k2
   clear h1 h2 h3 k2 hgo hs hnn hn
   go_enter Tryz.func75, Tryz.ntmps75
   go_wp2_with fail
   refine HE.out.mono ?_
   rintro e w1 ⟨rfl, h4, k4⟩
   go_wp2_with fail
   go_end0
   exact ⟨rfl, h4, KE.out.trans k4⟩
theorem len_fStF (s : ByteArray) : (fSt s).length = 1 := rfl
/-- A slice, without its first elements. -/
theorem Sat.tDrop2 {α : Type} {f : α → List Value} {w : World} {e : TypeId} {size : Nat} {xs : List α} {l : List HProp} {g off n cap : Nat} (hf : ∀ x, (f x).length = size) (k : Nat) (hk : k ≤ xs.length) (hs : Sat w (rowT f (.slice (some ⟨g, off, none⟩) n cap) e size xs :: l)) :
   Sat w (rowT f (.slice (some ⟨g, off + k * size, none⟩) (n - k) (cap - k)) e size (xs.drop k) :: l) := by
 have hc := hs.tCap
 rcases (Sat.rowE hs).2 with ⟨h, _⟩ | ⟨g', off', cap', cur, h, h1, h2, h3, h4, h5⟩
 · simp at h
 · simp only [Value.slice.injEq, Option.some.injEq, Addr.mk.injEq, and_true] at h
   obtain ⟨⟨rfl, rfl⟩, rfl, rfl⟩ := h
   have e0 : k * size + (cap - k) * size = cap * size := by rw [← Nat.add_mul]; congr 1; omega
   have h6 := (h5.rowI (n := xs.length - k) (off := off + k * size) (cap := cap - k) (size := size) (by omega) (by omega) (by omega))
   refine h6.tOf (xs.drop k) (by simp) ?_
   have hl : ∀ ys : List α, (ys.flatMap f).length = ys.length * size := fun ys => len_flatF hf ys
   have h7 := congrArg (List.drop (k * size)) h4
   rw [List.drop_take, List.drop_drop] at h7
   have e1 : xs.length * size - k * size = (xs.length - k) * size := by rw [Nat.sub_mul]
   rw [e1] at h7
   rw [h7]
   have e2 : xs.flatMap f = (xs.take k).flatMap f ++ (xs.drop k).flatMap f := by rw [← List.flatMap_append, List.take_append_drop]
   rw [e2]
   have e3 : ((xs.take k).flatMap f).length = k * size := by rw [hl, List.length_take, Nat.min_eq_left hk]
   rw [← e3, List.drop_left]
/-- A slice without its first element, where it was the only one of its room. -/
theorem Sat.tNone {α : Type} {f : α → List Value} {w : World} {e : TypeId} {size : Nat} {xs : List α} {l : List HProp} {g off n cap : Nat} (hs : Sat w (rowT f (.slice (some ⟨g, off, none⟩) n cap) e size xs :: l)) :
   Sat w (rowT f (.slice (some ⟨g, off, none⟩) 0 0) e size [] :: l) := by
 rcases (Sat.rowE hs).2 with ⟨h, _⟩ | ⟨g', off', cap', cur, h, h1, h2, h3, h4, h5⟩
 · simp at h
 · simp only [Value.slice.injEq, Option.some.injEq, Addr.mk.injEq, and_true] at h
   obtain ⟨⟨rfl, rfl⟩, _, rfl⟩ := h
   have h6 : off + 0 * size ≤ cur.size := by omega
   exact (h5.rowI (n := 0) (off := off) (cap := 0) (size := size) (by omega) (by omega) h6).tOf [] rfl (by simp)
theorem find_bottom {w : World} {l : List HProp} {f : Nat} {D : FindD} (hs : Sat w (findP f D :: l)) (hS : D.stack.length ≤ 1000) (hK : D.kids.length ≤ 12) :
   Calls Tryz.prog 127 #[.pointer (some ⟨f, 0, none⟩)] w fun x w' => x = .returned (.tuple #[]) ∧ Sat w' (findP f (bottomF D) :: l) ∧ Kp w w' := by
 cases hn : D.names with
 | nil => exact find_bottom0 hs hS hK (.inl hn)
 | cons x r =>
   cases hfo : D.found with
   | false => exact find_bottom0 hs hS hK (.inr hfo)
   | true =>
     have e0 : bottomF D = segF { D with at' := D.met, names := r } := by unfold bottomF; rw [hn]; dsimp only; rw [hfo, if_pos rfl]
     rw [e0]
     obtain ⟨vn, vs, vk, h1⟩ := findP_E hs
     rcases (h1.pull 1).tForm with ⟨_, hp⟩ | ⟨g, off, cap, hfv⟩
     · rw [hn] at hp; cases hp
     obtain ⟨n, hnn⟩ : ∃ n, n = D.names.length := ⟨_, rfl⟩
     rw [← hnn] at hfv
     subst hfv
     have hcap := (h1.pull 1).tCap
     have hn1 : n = r.length + 1 := by rw [hnn, hn]; rfl
     have hc0 : n ≤ cap := by omega
     have hc2 := hcap.2.2
     unfold maxLen at hc2
     have hn2 : ((n : Int) == 0) = false := by rw [beq_eq_false_iff_ne]; omega
     have i1' : (1 : Int) ≤ (n : Int) := by omega
     have i2' : (n : Int) ≤ (cap : Int) := by omega
     have hseg := fun (W : World) (l' : List HProp) (hW : Sat W (findP f { D with at' := D.met, names := r } :: l')) => find_segment hW hS hK
     have HSEG := Lib.hid hseg
     have f6 := (h1).cell 6
     have f7 := (h1).cell 7
     have f11 := (h1).cell 11
     have f12 := (h1).cell 12
     have ff6 := (h1).free 6
     have ff7 := (h1).free 7
     have ff11 := (h1).free 11
     have ff12 := (h1).free 12
     simp [findC, hfo] at f6 f7 f11 f12
     have hfl := h1.lt
     have HN := Lib.hid hn
     have HNN := Lib.hid hnn
     clear hs hseg e0 hn hnn hcap
     by_cases hc1 : cap = 1
     · subst hc1
       obtain rfl : n = 1 := by omega
       obtain rfl : r = [] := by cases r with | nil => rfl | cons => simp at hn1
       clear hn1 hn2 i1' i2' hc0 hc2
       have h2 := (h1.set 7 (.int .i64 D.met)).set 6 (.slice (some ⟨g, off, none⟩) 0 0)
       have k2 := ((Kp.refl w).setCell ⟨f, 7, none⟩ (.int .i64 D.met)).setCell ⟨f, 6, none⟩ (.slice (some ⟨g, off, none⟩) 0 0)
       have h3 := findP_I (D := { D with at' := D.met, names := [] }) ((h2.pull 1).tNone.push 1)
       clear h1 h2
       go_enter Tryz.func127, Tryz.ntmps127
       go_upto_region 4 with (fail)
       go_region
       have h4 := h3.drew
       have k4 := k2.drew
       clear h3 k2
       generalize World.drew _ = w5 at h4 k4 ⊢
       have hse := HSEG.out _ _ h4
       clear h4
       go_wp2_with fail
       refine hse.mono ?_
       rintro e w6 ⟨rfl, h6, k6⟩
       go_wp2_with fail
       go_end0
       exact ⟨rfl, h6, k4.trans k6⟩
     · have h1c : ¬ cap = 1 := hc1
       clear hn1
       have h2 := (h1.set 7 (.int .i64 D.met)).set 6 (.slice (some ⟨g, off + 1, none⟩) (n - 1) (cap - 1))
       have k2 := ((Kp.refl w).setCell ⟨f, 7, none⟩ (.int .i64 D.met)).setCell ⟨f, 6, none⟩ (.slice (some ⟨g, off + 1, none⟩) (n - 1) (cap - 1))
       have h3' := (h2.pull 1).tDrop2 len_fStF 1 (by rw [← HNN.out]; omega)
       rw [HN.out, List.drop_succ_cons, List.drop_zero] at h3'
       have h3 := findP_I (D := { D with at' := D.met, names := r }) (h3'.push 1)
       clear h1 h2 h3'
       go_enter Tryz.func127, Tryz.ntmps127
       go_upto_region 4 with (fail)
       go_region
       have h4 := h3.drew
       have k4 := k2.drew
       clear h3 k2
       generalize World.drew _ = w5 at h4 k4 ⊢
       have hse := HSEG.out _ _ h4
       clear h4
       go_wp2_with fail
       refine hse.mono ?_
       rintro e w6 ⟨rfl, h6, k6⟩
       go_wp2_with fail
       go_end0
       exact ⟨rfl, h6, k4.trans k6⟩
theorem find_go_down {w : World} {l : List HProp} {f : Nat} {D : FindD} {h : Hd} (hs : Sat w (findP f D :: l)) (hS : D.stack.length ≤ 1000) (hK : D.kids.length ≤ 12) :
   Calls Tryz.prog 101 #[.pointer (some ⟨f, 0, none⟩), .agg #[.int .i64 h.s, .int .i64 h.g], .func (.func 102) #[.pointer (some ⟨f, 0, none⟩)] #[]] w fun x w' => x = .returned (.tuple #[]) ∧ Sat w' (findP f (goF h .down D) :: l) ∧ Kp w w' :=
 find_go_down_of hs fun W l' hW => find_bottom hW hS hK
/-! ### down, for a name -/
def nodC (k : KidD) (b : Bool) (lh rh : Hd) (hi : Int) : Array Value := #[.int .i64 k.up, .string k.name, .int .i64 k.node, .bool b, .int .i64 lh.s, .int .i64 lh.g, .int .i64 rh.s, .int .i64 rh.g, .int .i64 hi]
theorem downS {w : World} {l : List HProp} {f N g off n cap : Nat} {D : FindD} {vs vk : Value} {k : KidD} {b : Bool} {lh rh : Hd} {hi : Int} {x : ByteArray} {r : List ByteArray} {tn tf : TypeId} (hn : D.names = x :: r)
   (h : Sat w (own N (.cells (nodC k b lh rh hi) tn (0, 0)) :: own f (.cells (findC f D (.slice (some ⟨g, off, none⟩) n cap) vs vk) tf (0, 0)) :: rowT fSt (.slice (some ⟨g, off, none⟩) n cap) 9 1 D.names :: l)) :
   w.cell? ⟨N, 0, none⟩ = some (.int .i64 k.up) ∧ w.cell? ⟨N, 1, none⟩ = some (.string k.name) ∧ w.cell? ⟨N, 2, none⟩ = some (.int .i64 k.node) ∧ w.cell? ⟨f, 6, none⟩ = some (.slice (some ⟨g, off, none⟩) n cap) ∧ w.cell? ⟨f, 7, none⟩ = some (.int .i64 D.at') ∧ w.cell? ⟨g, off, none⟩ = some (.string x) := by
 refine ⟨h.cell 0, h.cell 1, h.cell 2, (h.pull 1).cell 6, (h.pull 1).cell 7, ?_⟩
 have := (h.pull 2).tCell len_fStF 0 0 (x := x) (by rw [hn]; rfl) rfl
 simpa using this
theorem find_down {w : World} {l : List HProp} {f : Nat} {D : FindD} {k : KidD} {b : Bool} {lh rh : Hd} {hi : Int} {x : ByteArray} {r : List ByteArray} (hs : Sat w (findP f D :: l)) (hS : D.stack.length ≤ 1000) (hK : D.kids.length ≤ 12) (hn : D.names = x :: r) :
   Calls Tryz.prog 102 #[.pointer (some ⟨f, 0, none⟩), .agg (nodC k b lh rh hi)] w fun e w' => e = .returned (.tuple #[]) ∧ Sat w' (findP f (downF k lh rh x D) :: l) ∧ Kp w w' := by
 have hmf : ∀ (fn : Fn) (first cap : Array Value) (w : World), (Instr.makeFunc fn first cap).run Tryz.prog w = .ok (.func fn first cap) w := fun _ _ _ _ => rfl
 obtain ⟨vn, vs, vk, h1⟩ := findP_E hs
 rcases (h1.pull 1).tForm with ⟨_, hp⟩ | ⟨g, off, cap, hfv⟩
 · rw [hn] at hp; cases hp
 obtain ⟨n, hnn⟩ : ∃ n, n = D.names.length := ⟨_, rfl⟩
 rw [← hnn] at hfv
 subst hfv
 have hn0 : 0 < n := by rw [hnn, hn]; simp
 have i1' : (0 : Int) < (n : Int) := by omega
 have hcap := (h1.pull 1).tCap
 have hc2 := hcap.2.2
 unfold maxLen at hc2
 have hc0 : (n : Int) ≤ (cap : Int) := by omega
 have hB := h1.alloc (.cells (nodC k b lh rh hi) 75)
 have kB := (Kp.refl w).alloc (.cells (nodC k b lh rh hi) 75)
 have HN := Lib.hid hn
 clear hs h1 hnn hn hcap
 have hr : kord k ⟨D.at', x, 0⟩ < 0 → downF k lh rh x D = goF rh .down D := fun h => by unfold downF; rw [if_pos h]
 have hl : ¬ kord k ⟨D.at', x, 0⟩ < 0 → downF k lh rh x D = goF lh .down (hitF k x D) := fun h => by unfold downF; rw [if_neg h]
 generalize downF k lh rh x D = R at hr hl ⊢
 have HR := Lib.hid hr
 have HL := Lib.hid hl
 clear hr hl
 unfold nodC at hB kB ⊢
 go_enter Tryz.func102, Tryz.ntmps102
 go_upto_region 1 with (fail)
 generalize World.alloc _ _ = w1 at hB kB ⊢
 generalize w.heap.size = N at hB ⊢
 have hcp := view_order hB.drew k ⟨D.at', x, 0⟩
 unfold aggK at hcp
 dsimp only at hcp
 have S0 := downS HN.out hB
 have HS0 := Lib.hid S0
 obtain ⟨a0, a1, a2, a3, a4, a5⟩ := S0
 go_region_held3 (fun w' => w'.cell? ⟨N, 0, none⟩ = some (.int .i64 k.up) ∧ w'.cell? ⟨N, 1, none⟩ = some (.string k.name) ∧ w'.cell? ⟨N, 2, none⟩ = some (.int .i64 k.node) ∧ w'.cell? ⟨f, 6, none⟩ = some (.slice (some ⟨g, off, none⟩) n cap) ∧ w'.cell? ⟨f, 7, none⟩ = some (.int .i64 D.at') ∧ w'.cell? ⟨g, off, none⟩ = some (.string x)) (first | with_reducible exact HS0.out | with_reducible exact SA | go_keep) ((go_at_call 61; (with_reducible refine hcp.mono ?_); rintro e w3 ⟨rfl, h3, k3⟩; have SA := downS HN.out h3))
 have k4 := kB.drew.trans k3
 clear SA hcp hB kB a0 a1 a2 a3 a4 a5
 by_cases hk : kord k ⟨D.at', x, 0⟩ < 0
 · have eR := HR.out hk
   clear HR HL
   subst eR
   have n6 := (h3).cell 6
   have n7 := (h3).cell 7
   simp at n6 n7
   have hnl := h3.lt
   have hgo := find_go_down (h := rh) (findP_I h3.tail) hS hK
   clear h3
   go_wp2_with fail
   refine hgo.mono ?_
   rintro e w4 ⟨rfl, h5, k5⟩
   go_wp2_with fail
   exact bodyPost_ret (v := .tuple #[]) (by simp [results, Tryz.results102, go_sem]) rfl ⟨rfl, h5, k4.trans k5⟩
 · have eR := HL.out (by first | exact hk | omega)
   clear HR HL
   obtain ⟨a0, a1, a2, a3, a4, a5⟩ := downS HN.out h3
   have hnl := h3.lt
   have hfl := (h3.pull 1).lt
   have hgl := (h3.pull 2).rowBlock
   go_upto_region 3 with (fail)
   cases e1 : (k.up == D.at') with
   | false =>
     have e0 : hitF k x D = D := by unfold hitF; rw [if_neg]; rintro ⟨h, _⟩; rw [h] at e1; simp at e1
     rw [e0] at eR
     subst eR
     go_quiet (fail)
     have h4 := h3.drewN nq
     have k5 := k4.drewN nq
     generalize w3.drewN nq = w4 at h4 k5 ⊢
     clear h3 k4 a0 a1 a2 a3 a4 a5 hnl hfl hgl
     have n4 := (h4).cell 4
     have n5 := (h4).cell 5
     simp at n4 n5
     have hnl := h4.lt
     have hgo := find_go_down (h := lh) (findP_I h4.tail) hS hK
     clear h4
     go_wp2_with fail
     refine hgo.mono ?_
     rintro e w5 ⟨rfl, h5, k6⟩
     go_wp2_with fail
     go_end0
     exact ⟨rfl, h5, k5.trans k6⟩
   | true =>
     have e1' : k.up = D.at' := by simpa using e1
     cases e2 : (k.name.toList == x.toList) with
     | false =>
       have e0 : hitF k x D = D := by unfold hitF; rw [if_neg]; rintro ⟨_, h⟩; rw [h] at e2; simp at e2
       rw [e0] at eR
       subst eR
       clear e1'
       go_quiet (fail)
       have h4 := h3.drewN nq
       have k5 := k4.drewN nq
       generalize w3.drewN nq = w4 at h4 k5 ⊢
       clear h3 k4 a0 a1 a2 a3 a4 a5 hnl hfl hgl
       have n4 := (h4).cell 4
       have n5 := (h4).cell 5
       simp at n4 n5
       have hnl := h4.lt
       have hgo := find_go_down (h := lh) (findP_I h4.tail) hS hK
       clear h4
       go_wp2_with fail
       refine hgo.mono ?_
       rintro e w5 ⟨rfl, h5, k6⟩
       go_wp2_with fail
       go_end0
       exact ⟨rfl, h5, k5.trans k6⟩
     | true =>
       have e0 : hitF k x D = { D with met := k.node, found := true } := by unfold hitF; rw [if_pos ⟨e1', name_eq (by simpa using e2)⟩]
       rw [e0] at eR
       subst eR
       clear e1'
       go_quiet (fail)
       have h4 := h3.drewN nq
       have k5 := k4.drewN nq
       generalize w3.drewN nq = w4 at h4 k5 ⊢
       clear h3 k4 a0 a1 a2 a3 a4 a5 hnl hfl hgl
       have n2 := (h4).cell 2
       have n4 := (h4).cell 4
       have n5 := (h4).cell 5
       simp at n2 n4 n5
       have hnl := h4.lt
       have hfl := (h4.pull 1).lt
       have f11 := (h4.pull 1).cell 11
       have f12 := (h4.pull 1).cell 12
       have ff11 := (h4.pull 1).free 11
       have ff12 := (h4.pull 1).free 12
       simp [findC] at f11 f12
       have h5 := ((((h4.pull 1).set 11 (.int .i64 k.node)).set 12 (.bool true)).pull 1).tail
       have k6 := ((k5.setCell ⟨f, 11, none⟩ (.int .i64 k.node)).setCell ⟨f, 12, none⟩ (.bool true))
       have hne := h4.ne
       have hne' := hne.symm
       have hgo := find_go_down (h := lh) (findP_I (D := { D with met := k.node, found := true }) h5) hS hK
       clear h4 h5 k5
       go_wp2_with fail
       refine hgo.mono ?_
       rintro e w5 ⟨rfl, h5, k7⟩
       go_wp2_with fail
       go_end0
       exact ⟨rfl, h5, k6.trans k7⟩
end Go.Proofs.YtddglbjhhnipgaaGreatDoor

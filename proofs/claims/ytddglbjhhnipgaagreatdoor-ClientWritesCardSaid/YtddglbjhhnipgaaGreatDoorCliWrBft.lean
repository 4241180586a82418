import Derived.Test.YtddglbjhhnipgaaGreatDoorCliWrBff
namespace Go.Proofs.YtddglbjhhnipgaaGreatDoor
open Go Go.RowKit
set_option linter.unusedVariables false
set_option linter.unusedSimpArgs false

set_option maxRecDepth 100000 in
set_option maxHeartbeats 8000000 in
theorem cw_bad_ft {W : World} {x : CallD} {r : RepD} {ks : List KidD} {bs bs2 : List Int} (hxr : ArgRow W fU x.dao x.dn x.dc bs) (hkr : ArgRow W fK r.kao r.kn r.kc ks) (hdr : ArgRow W fU r.dao r.dn r.dc bs2)
    (ht : x.text.size ≤ 450) (hd : x.dn ≤ 400) (hkn : r.kn ≤ 12) (hdn : r.dn ≤ 400) (hk3 : x.kind ≠ 3) (hk4 : x.kind ≠ 4) (hkb : x.kind < 0 ∨ 7 < x.kind) :
    LawCalls Tryz.prog 3 #[aggCa x, aggA r, .bool false, .bool true] W := by
  have hB := (Sat.start W).alloc (.cells #[.int .i64 x.kind, .int .i64 x.node, .int .i64 x.up, .string x.text, .slice x.dao x.dn x.dc] 24)
  have kB := (Kp.refl W).alloc (.cells #[.int .i64 x.kind, .int .i64 x.node, .int .i64 x.up, .string x.text, .slice x.dao x.dn x.dc] 24)
  have hO := hB.alloc (.cells #[.int .i64 r.e, .int .i64 r.version, .int .i64 r.node, .slice r.kao r.kn r.kc, .slice r.dao r.dn r.dc] 28)
  have kO := kB.alloc (.cells #[.int .i64 r.e, .int .i64 r.version, .int .i64 r.node, .slice r.kao r.kn r.kc, .slice r.dao r.dn r.dc] 28)
  simp only [World.size_alloc] at hO
  have hmf : ∀ (fn : Fn) (first cap : Array Value) (w : World), (Instr.makeFunc fn first cap).run Tryz.prog w = .ok (.func fn first cap) w := fun _ _ _ _ => rfl
  clear hB kB
  unfold LawCalls
  unfold aggCa aggA
  go_enter Tryz.func3, Tryz.ntmps3
  go_upto_region 1 with (fail)
  generalize World.alloc _ _ = w1 at hO kO ⊢
  generalize W.heap.size + 1 = BA at hO ⊢
  generalize W.heap.size = BX at hO ⊢
  go_wp2_with fail
  refine (client_awake hO).mono ?_
  rintro e w2 ⟨rfl, h2, k2⟩
  have k2 := kO.trans k2
  clear hO kO
  have x0 := (h2.pull 1).cell 0
  have x1 := (h2.pull 1).cell 1
  have x2 := (h2.pull 1).cell 2
  have x3 := (h2.pull 1).cell 3
  have x4 := (h2.pull 1).cell 4
  simp at x0 x1 x2 x3 x4
  have a3 := (h2).cell 3
  have a4 := (h2).cell 4
  simp at a3 a4
  have h3 := rowCa1 x h2
  have k3 := k2.alloc (.cells #[.int .i64 x.kind, .int .i64 x.node, .int .i64 x.up, .string x.text, .slice x.dao x.dn x.dc] 24)
  go_wp2_with fail
  refine (few_one (b := true) h3 (by simp [ht, hd])).mono ?_
  rintro e w4 ⟨rfl, h4, k4⟩
  have k4 := k3.trans k4
  have h4 := h4.tail
  clear x0 x1 x2 x3 x4 a3 a4 h3 k3 h2 k2
  have x0 := (h4.pull 1).cell 0
  have x1 := (h4.pull 1).cell 1
  have x2 := (h4.pull 1).cell 2
  have x3 := (h4.pull 1).cell 3
  have x4 := (h4.pull 1).cell 4
  simp at x0 x1 x2 x3 x4
  have a3 := (h4).cell 3
  have a4 := (h4).cell 4
  simp at a3 a4
  have hkn' : ¬ (12 : Int) < (r.kn : Int) := by omega
  have hdn' : ¬ (400 : Int) < (r.dn : Int) := by omega
  go_wp2_with fail
  refine (reads_no hk3 hk4).mono ?_
  rintro e w5 ⟨rfl, rfl⟩
  go_wp2_with fail
  refine (desk_new 3 1 w4 _ h4 (by omega) (by omega) (by omega)).mono ?_
  rintro e w5 ⟨d, rfl, h5, k5⟩
  have k5 := k4.trans k5
  clear h4 k4 x0 x1 x2 x3 x4 a3 a4
  go_wp2_with fail
  refine (view_new (most := 10) h5 (by omega) (by omega)).mono ?_
  rintro e w6 ⟨s, rfl, h6, k6⟩
  have k6 := (k5.trans k6)
  have h6 := h6.swap
  clear h5 k5
  go_wp2_with fail
  refine (desk_shut h6 (by decide) (by decide)).mono ?_
  rintro e w6 ⟨rfl, h6, k7⟩
  have k6 := k6.trans k7
  clear k7
  go_upto_region 14 with (fail)
  obtain ⟨D, hD⟩ : ∃ D, { tick (newD 3 1) with closed := true } = D := ⟨_, rfl⟩
  have hDr : D.reps = List.replicate 3 zeroR := by rw [← hD] <;> rfl
  have hDa : D.acc = 1 := by rw [← hD] <;> rfl
  have hDm : D.msgs = [] := by rw [← hD] <;> rfl
  have hDq : D.most = 1 := by rw [← hD] <;> rfl
  have hDc : D.closed = true := by rw [← hD] <;> rfl
  rw [hD] at h6
  clear hD
  have hL := (h6.tNil fEv 41 4).alloc (.cells #[.slice none 0 0] 37)
  have kL := k6.alloc (.cells #[.slice none 0 0] 37)
  clear h6 k6
  go_upto_region 15 with (fail)
  generalize World.alloc _ _ = w7 at hL kL ⊢
  generalize w6.heap.size = lb at hL ⊢
  have h7 := logP_I hL
  clear hL
  have x0 := (h7.pull 4).cell 0
  have x1 := (h7.pull 4).cell 1
  have x2 := (h7.pull 4).cell 2
  have x3 := (h7.pull 4).cell 3
  have x4 := (h7.pull 4).cell 4
  simp at x0 x1 x2 x3 x4
  have h8 := rowCa2 call99 x h7
  have k8 := kL.alloc (.cells #[.int .i64 99, .int .i64 0, .int .i64 0, .string ⟨#[]⟩, .slice none 0 0, .int .i64 x.kind, .int .i64 x.node, .int .i64 x.up, .string x.text, .slice x.dao x.dn x.dc] 24)
  clear kL
  go_wp2_with fail
  refine (cli_new (d := d) (s := s) (i := 2) (k := 20) (cap := #[.pointer (some ⟨lb, 0, none⟩)]) h8 (by simp)).mono ?_
  rintro e w9 ⟨c, rfl, h9, k9⟩
  have k9 := k8.trans k9
  have h9 := (h9.pull 1).tail.swap.pull 1
  clear h7 h8 k8 x0 x1 x2 x3 x4
  have HN := Lib.hid (note_writes lb)
  have hr2 : D.reps[2]? = some zeroR := by rw [hDr]; rfl
  go_wp2_with fail
  refine (step_begin_bad HN.out (x := call99) (r := zeroR) (by show (0 : Nat) ≤ 100000; decide) (by show (1 : Nat) ≤ 100000; decide) (by show (0 : Nat) < 1000000; decide) (by show (0 : Nat) ≤ 1000000; decide) (by rfl) (.inr (by decide)) (by exact hr2) rfl rfl h9).mono ?_
  rintro e w10 ⟨rfl, h10, k10⟩
  have k10 := k9.trans k10
  clear h9 k9
  change Sat w10 (cliP c d s (.func (.func 20) #[] #[.pointer (some ⟨lb, 0, none⟩)]) ⟨2, [call99, x], 1, .begin, false, 0, ⟨0, 0, 0, 0, 0⟩, false, none, [ans1]⟩ :: logP lb [⟨0, 2, 0, 0⟩, ⟨9, 2, 0, 0⟩] :: _) at h10
  obtain ⟨v, hl⟩ := logP_E (h10.pull 1)
  obtain ⟨lo, lc, rfl⟩ := (hl.pull 1).tLen
  have l0 := hl.cell 0
  simp at l0
  have hv := (rowEv2 ⟨0, 2, 0, 0⟩ ⟨9, 2, 0, 0⟩ (hl.pull 1)).swap
  have kv := k10.alloc (.cells #[.int .i64 0, .int .i64 2, .int .i64 0, .int .i64 0, .int .i64 9, .int .i64 2, .int .i64 0, .int .i64 0] 41)
  go_wp2_with fail
  refine (events_same hv (by decide)).mono ?_
  rintro e w11 ⟨rfl, h11, k11⟩
  have k11 := kv.trans k11
  clear hv hl l0 h10 k10 kv
  have h11 := (logP_I (h11.pull 2 |>.pull 2 |>.tail |> fun h => h)).swap
  clear hxr hkr hdr
  go_wp2_with fail
  refine (desk_accesses (h11.pull 2)).mono ?_
  rintro e w12 ⟨rfl, rfl⟩
  rw [hDa]
  go_wp2_with fail
  refine (step_begin_bad HN.out (x := x) (r := zeroR) (by show (2 : Nat) ≤ 100000; decide) (by show (3 : Nat) ≤ 100000; decide) (by show (1 : Nat) < 1000000; decide) (by show (1 : Nat) ≤ 1000000; decide) (by rfl) hkb (by exact hr2) rfl rfl h11).mono ?_
  rintro e w13 ⟨rfl, h13, k13⟩
  have k13 := k11.trans k13
  clear h11 k11
  change Sat w13 (cliP c d s (.func (.func 20) #[] #[.pointer (some ⟨lb, 0, none⟩)]) ⟨2, [call99, x], 2, .begin, false, 0, ⟨0, 0, 0, 0, 0⟩, false, none, [ans1, ans1]⟩ :: logP lb [⟨0, 2, 0, 0⟩, ⟨9, 2, 0, 0⟩, ⟨0, 2, 1, 0⟩, ⟨9, 2, 1, 0⟩] :: _) at h13
  go_wp2_with fail
  refine (desk_accesses (h13.pull 2)).mono ?_
  rintro e w14 ⟨rfl, rfl⟩
  rw [hDa]
  obtain ⟨v, hl⟩ := logP_E (h13.pull 1)
  rcases (hl.pull 1).tForm with ⟨_, hp⟩ | ⟨g, off, cp, rfl⟩
  · simp at hp
  have hcp := (hl.pull 1).tCap.1
  have hcp4 : 4 ≤ cp := hcp
  have hsl := slice2 (g := g) (off := off) (n := 4) (cap := cp) (by omega) (by omega) (by omega)
  have l0 := hl.cell 0
  have lf := hl.free 0
  simp at l0
  have hll := hl.lt
  have hm := ((hl.pull 1).tDrop len_fEv 2 (by simp)).swap
  have hm := logP_I (hm.set 0 (.slice (some ⟨g, off + 2 * 4, none⟩) (4 - 2) (cp - 2)))
  have km := k13.setCell ⟨lb, 0, none⟩ (.slice (some ⟨g, off + 2 * 4, none⟩) (4 - 2) (cp - 2))
  change Sat _ (logP lb [⟨0, 2, 1, 0⟩, ⟨9, 2, 1, 0⟩] :: _) at hm
  have hm := hm.swap
  go_upto_region 25 with (fail)
  generalize World.setCell _ _ _ = wm at hm km ⊢
  clear hl hcp hcp4 hsl l0 lf hll h13 k13
  have x0 := (hm.pull 5).cell 0
  simp at x0
  go_wp2_with fail
  refine (writes_no hkb).mono ?_
  rintro e w15 ⟨rfl, rfl⟩
  clear x0
  go_wp2_with fail
  refine (cli_answers hm (by show (2 : Nat) ≤ 1000000; decide)).mono ?_
  rintro e w16 ⟨v, rfl, hf, kf⟩
  have kf := km.trans kf
  rcases hf.tForm with ⟨_, hp⟩ | ⟨ga, oa, ca, rfl⟩
  · simp at hp
  have q0 := hf.tCell len_fAn 1 0 rfl rfl
  have hrd := cli_rdy (r := zeroR) false (by rfl) hf.tail (by exact hr2) (by show (2 : Nat) ≤ 1000000; decide)
  clear hm km
  simp only [ans1, fAn] at q0
  go_wp2_with fail
  refine hrd.mono ?_
  rintro e w17 ⟨rfl, hz, kz⟩
  go_wp2_with fail
  go_ret
  exact ⟨rfl, Sat.below (hz.pull 6) (kf.trans kz)⟩

end Go.Proofs.YtddglbjhhnipgaaGreatDoor

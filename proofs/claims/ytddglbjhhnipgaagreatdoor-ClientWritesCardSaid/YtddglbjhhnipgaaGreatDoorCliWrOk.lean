import Derived.Test.YtddglbjhhnipgaaGreatDoorCliWrBff
namespace Go.Proofs.YtddglbjhhnipgaaGreatDoor
open Go Go.RowKit
set_option linter.unusedVariables false
set_option linter.unusedSimpArgs false

set_option maxRecDepth 100000 in
set_option maxHeartbeats 8000000 in
theorem cw_ok {W : World} {x : CallD} {r : RepD} {ks : List KidD} {bs bs2 : List Int} (hxr : ArgRow W fU x.dao x.dn x.dc bs) (hkr : ArgRow W fK r.kao r.kn r.kc ks) (hdr : ArgRow W fU r.dao r.dn r.dc bs2)
    (ht : x.text.size ≤ 450) (hd : x.dn ≤ 400) (hkn : r.kn ≤ 12) (hdn : r.dn ≤ 400) (hk3 : x.kind ≠ 3) (hk4 : x.kind ≠ 4) (hkb : x.kind = 0 ∨ x.kind = 1 ∨ x.kind = 2 ∨ x.kind = 5 ∨ x.kind = 6 ∨ x.kind = 7) :
    LawCalls Tryz.prog 3 #[aggCa x, aggA r, .bool false, .bool false] W := by
  have hB := (Sat.start W).alloc (.cells #[.int .i64 x.kind, .int .i64 x.node, .int .i64 x.up, .string x.text, .slice x.dao x.dn x.dc] 24)
  have kB := (Kp.refl W).alloc (.cells #[.int .i64 x.kind, .int .i64 x.node, .int .i64 x.up, .string x.text, .slice x.dao x.dn x.dc] 24)
  have hO := hB.alloc (.cells #[.int .i64 r.e, .int .i64 r.version, .int .i64 r.node, .slice r.kao r.kn r.kc, .slice r.dao r.dn r.dc] 28)
  have kO := kB.alloc (.cells #[.int .i64 r.e, .int .i64 r.version, .int .i64 r.node, .slice r.kao r.kn r.kc, .slice r.dao r.dn r.dc] 28)
  simp only [World.size_alloc] at hO
  have hmf : ∀ (fn : Fn) (first cap : Array Value) (w : World), (Instr.makeFunc fn first cap).run Tryz.prog w = .ok (.func fn first cap) w := fun _ _ _ _ => rfl
  clear hB kB
  unfold LawCalls
  unfold aggCa aggA
  go_enter Tryz.func3, Tryz.ntmps3
  go_upto_region 1 with (fail)
  generalize World.alloc _ _ = w1 at hO kO ⊢
  generalize W.heap.size + 1 = BA at hO ⊢
  generalize W.heap.size = BX at hO ⊢
  go_wp2_with fail
  refine (client_awake hO).mono ?_
  rintro e w2 ⟨rfl, h2, k2⟩
  have k2 := kO.trans k2
  clear hO kO
  have x0 := (h2.pull 1).cell 0
  have x1 := (h2.pull 1).cell 1
  have x2 := (h2.pull 1).cell 2
  have x3 := (h2.pull 1).cell 3
  have x4 := (h2.pull 1).cell 4
  simp at x0 x1 x2 x3 x4
  have a3 := (h2).cell 3
  have a4 := (h2).cell 4
  simp at a3 a4
  have h3 := rowCa1 x h2
  have k3 := k2.alloc (.cells #[.int .i64 x.kind, .int .i64 x.node, .int .i64 x.up, .string x.text, .slice x.dao x.dn x.dc] 24)
  go_wp2_with fail
  refine (few_one (b := true) h3 (by simp [ht, hd])).mono ?_
  rintro e w4 ⟨rfl, h4, k4⟩
  have k4 := k3.trans k4
  have h4 := h4.tail
  clear x0 x1 x2 x3 x4 a3 a4 h3 k3 h2 k2
  have x0 := (h4.pull 1).cell 0
  have x1 := (h4.pull 1).cell 1
  have x2 := (h4.pull 1).cell 2
  have x3 := (h4.pull 1).cell 3
  have x4 := (h4.pull 1).cell 4
  simp at x0 x1 x2 x3 x4
  have a3 := (h4).cell 3
  have a4 := (h4).cell 4
  simp at a3 a4
  have hkn' : ¬ (12 : Int) < (r.kn : Int) := by omega
  have hdn' : ¬ (400 : Int) < (r.dn : Int) := by omega
  go_wp2_with fail
  refine (reads_no hk3 hk4).mono ?_
  rintro e w5 ⟨rfl, rfl⟩
  go_wp2_with fail
  refine (desk_new 3 1 w4 _ h4 (by omega) (by omega) (by omega)).mono ?_
  rintro e w5 ⟨d, rfl, h5, k5⟩
  have k5 := k4.trans k5
  clear h4 k4 x0 x1 x2 x3 x4 a3 a4
  go_wp2_with fail
  refine (view_new (most := 10) h5 (by omega) (by omega)).mono ?_
  rintro e w6 ⟨s, rfl, h6, k6⟩
  have k6 := (k5.trans k6)
  have h6 := h6.swap
  clear h5 k5
  go_upto_region 14 with (fail)
  obtain ⟨D, hD⟩ : ∃ D, (newD 3 1) = D := ⟨_, rfl⟩
  have hDr : D.reps = List.replicate 3 zeroR := by rw [← hD] <;> rfl
  have hDa : D.acc = 0 := by rw [← hD] <;> rfl
  have hDm : D.msgs = [] := by rw [← hD] <;> rfl
  have hDq : D.most = 1 := by rw [← hD] <;> rfl
  have hDc : D.closed = false := by rw [← hD] <;> rfl
  rw [hD] at h6
  clear hD
  have hL := (h6.tNil fEv 41 4).alloc (.cells #[.slice none 0 0] 37)
  have kL := k6.alloc (.cells #[.slice none 0 0] 37)
  clear h6 k6
  go_upto_region 15 with (fail)
  generalize World.alloc _ _ = w7 at hL kL ⊢
  generalize w6.heap.size = lb at hL ⊢
  have h7 := logP_I hL
  clear hL
  have x0 := (h7.pull 4).cell 0
  have x1 := (h7.pull 4).cell 1
  have x2 := (h7.pull 4).cell 2
  have x3 := (h7.pull 4).cell 3
  have x4 := (h7.pull 4).cell 4
  simp at x0 x1 x2 x3 x4
  have h8 := rowCa2 call99 x h7
  have k8 := kL.alloc (.cells #[.int .i64 99, .int .i64 0, .int .i64 0, .string ⟨#[]⟩, .slice none 0 0, .int .i64 x.kind, .int .i64 x.node, .int .i64 x.up, .string x.text, .slice x.dao x.dn x.dc] 24)
  clear kL
  go_wp2_with fail
  refine (cli_new (d := d) (s := s) (i := 2) (k := 20) (cap := #[.pointer (some ⟨lb, 0, none⟩)]) h8 (by simp)).mono ?_
  rintro e w9 ⟨c, rfl, h9, k9⟩
  have k9 := k8.trans k9
  have h9 := (h9.pull 1).tail.swap.pull 1
  clear h7 h8 k8 x0 x1 x2 x3 x4
  have HN := Lib.hid (note_writes lb)
  have hr2 : D.reps[2]? = some zeroR := by rw [hDr]; rfl
  go_wp2_with fail
  refine (step_begin_bad HN.out (x := call99) (r := zeroR) (by show (0 : Nat) ≤ 100000; decide) (by show (1 : Nat) ≤ 100000; decide) (by show (0 : Nat) < 1000000; decide) (by show (0 : Nat) ≤ 1000000; decide) (by rfl) (.inr (by decide)) (by exact hr2) rfl rfl h9).mono ?_
  rintro e w10 ⟨rfl, h10, k10⟩
  have k10 := k9.trans k10
  clear h9 k9
  change Sat w10 (cliP c d s (.func (.func 20) #[] #[.pointer (some ⟨lb, 0, none⟩)]) ⟨2, [call99, x], 1, .begin, false, 0, ⟨0, 0, 0, 0, 0⟩, false, none, [ans1]⟩ :: logP lb [⟨0, 2, 0, 0⟩, ⟨9, 2, 0, 0⟩] :: _) at h10
  obtain ⟨v, hl⟩ := logP_E (h10.pull 1)
  obtain ⟨lo, lc, rfl⟩ := (hl.pull 1).tLen
  have l0 := hl.cell 0
  simp at l0
  have hv := (rowEv2 ⟨0, 2, 0, 0⟩ ⟨9, 2, 0, 0⟩ (hl.pull 1)).swap
  have kv := k10.alloc (.cells #[.int .i64 0, .int .i64 2, .int .i64 0, .int .i64 0, .int .i64 9, .int .i64 2, .int .i64 0, .int .i64 0] 41)
  go_wp2_with fail
  refine (events_same hv (by decide)).mono ?_
  rintro e w11 ⟨rfl, h11, k11⟩
  have k11 := kv.trans k11
  clear hv hl l0 h10 k10 kv
  have h11 := (logP_I (h11.pull 2 |>.pull 2 |>.tail |> fun h => h)).swap
  have ha0 : (0 : Int) ≤ D.acc := by omega
  have ha1 : D.acc < 1000000000 := by omega
  obtain ⟨D1, hD1⟩ : ∃ D1, ({ tick D with msgs := D.msgs ++ [⟨2, 1, x.kind, x.node, x.up, x.text, x.dao, x.dn, x.dc⟩] } : DeskD) = D1 := ⟨_, rfl⟩
  have hsend := fun (w : World) (l : List HProp) (hW : Sat w (deskP d D :: l)) => (desk_send (m := ⟨2, 1, x.kind, x.node, x.up, x.text, x.dao, x.dn, x.dc⟩) hW (by omega) (by omega) hDc (by rw [hDm, hDq]; decide) (by rw [hDq]; decide) : Calls Tryz.prog 52 #[.pointer (some ⟨d, 0, none⟩), aggM (msgOf ⟨2, [call99, x], 1, .begin, false, 0, ⟨0, 0, 0, 0, 0⟩, false, none, [ans1]⟩ x)] w fun e w' => e = .returned (.int .i64 0) ∧ Sat w' (deskP d { tick D with msgs := D.msgs ++ [⟨2, 1, x.kind, x.node, x.up, x.text, x.dao, x.dn, x.dc⟩] } :: l) ∧ Kp w w')
  rw [hD1] at hsend
  have h1r : D1.reps = List.replicate 3 zeroR := by rw [← hD1]; exact hDr
  have h1a : D1.acc = 1 := by rw [← hD1]; show D.acc + 1 = 1; omega
  have h1m : D1.msgs = [⟨2, 1, x.kind, x.node, x.up, x.text, x.dao, x.dn, x.dc⟩] := by rw [← hD1]; show D.msgs ++ _ = _; rw [hDm]; rfl
  clear hD1
  have HSEND := Lib.hid hsend
  clear hsend
  go_wp2_with fail
  refine (desk_accesses (h11.pull 2)).mono ?_
  rintro e w12 ⟨rfl, rfl⟩
  rw [hDa]
  go_wp2_with fail
  refine (step_begin_send HN.out (x := x) (r := zeroR) (q := 0) (by show (2 : Nat) ≤ 100000; decide) (by show (3 : Nat) ≤ 100000; decide) (by show (4 : Nat) ≤ 100000; decide) (by show (1 : Nat) < 1000000; decide) (by show (1 : Nat) ≤ 1000000; decide) (by rfl) hkb (by exact hr2) rfl rfl h11 HSEND.out).mono ?_
  rintro e w13 ⟨rfl, h13, k13⟩
  have k13 := k11.trans k13
  clear h11 k11 HSEND
  unfold SendQ at h13
  rw [if_pos rfl] at h13
  change Sat w13 (cliP c d s (.func (.func 20) #[] #[.pointer (some ⟨lb, 0, none⟩)]) ⟨2, [call99, x], 1, .take, true, 0, ⟨0, 0, 0, 0, 0⟩, false, none, [ans1]⟩ :: logP lb [⟨0, 2, 0, 0⟩, ⟨9, 2, 0, 0⟩, ⟨0, 2, 1, 0⟩, ⟨1, 2, 1, 0⟩] :: _) at h13
  have hr3 : D1.reps[2]? = some zeroR := by rw [h1r]; rfl
  go_wp2_with fail
  refine (desk_accesses (h13.pull 2)).mono ?_
  rintro e w14 ⟨rfl, rfl⟩
  rw [h1a]
  obtain ⟨v, hl⟩ := logP_E (h13.pull 1)
  rcases (hl.pull 1).tForm with ⟨_, hp⟩ | ⟨g, off, cp, rfl⟩
  · simp at hp
  have hcp := (hl.pull 1).tCap.1
  have hcp4 : 4 ≤ cp := hcp
  have hsl := slice2 (g := g) (off := off) (n := 4) (cap := cp) (by omega) (by omega) (by omega)
  have l0 := hl.cell 0
  have lf := hl.free 0
  simp at l0
  have hll := hl.lt
  have hm := ((hl.pull 1).tDrop len_fEv 2 (by simp)).swap
  have hm := logP_I (hm.set 0 (.slice (some ⟨g, off + 2 * 4, none⟩) (4 - 2) (cp - 2)))
  have km := k13.setCell ⟨lb, 0, none⟩ (.slice (some ⟨g, off + 2 * 4, none⟩) (4 - 2) (cp - 2))
  change Sat _ (logP lb [⟨0, 2, 1, 0⟩, ⟨1, 2, 1, 0⟩] :: _) at hm
  have hm := hm.swap
  go_upto_region 25 with (fail)
  generalize World.setCell _ _ _ = wm at hm km ⊢
  clear hl hcp hcp4 hsl l0 lf hll h13 k13
  have x0 := (hm.pull 5).cell 0
  simp at x0
  go_wp2_with fail
  refine (writes_yes hkb).mono ?_
  rintro e w15 ⟨rfl, rfl⟩
  clear x0
  go_wp2_with fail
  refine (desk_receive (hm.pull 2) (by omega) (by omega) h1m (by decide)).mono ?_
  rintro e w16 ⟨rfl, h16, k16⟩
  have k16 := km.trans k16
  clear hm km
  obtain ⟨D2, hD2⟩ : ∃ D2, ({ tick D1 with msgs := [] } : DeskD) = D2 := ⟨_, rfl⟩
  have h2r : D2.reps = List.replicate 3 zeroR := by rw [← hD2]; exact h1r
  have h2a : D2.acc = 2 := by rw [← hD2]; show D1.acc + 1 = 2; omega
  rw [hD2] at h16
  clear hD2
  have h17 := (h16.push 2).alloc (.cells #[.int .i64 2, .int .i64 1, .int .i64 x.kind, .int .i64 x.node, .int .i64 x.up, .string x.text, .slice x.dao x.dn x.dc] 49)
  have k17 := k16.alloc (.cells #[.int .i64 2, .int .i64 1, .int .i64 x.kind, .int .i64 x.node, .int .i64 x.up, .string x.text, .slice x.dao x.dn x.dc] 49)
  clear h16 k16
  unfold aggM
  go_upto_region 39 with (fail)
  generalize World.alloc _ _ = w17 at h17 k17 ⊢
  generalize w16.heap.size = BM at h17 ⊢
  have h17 := h17.push 3
  have hr4 : D2.reps[2]? = some zeroR := by rw [h2r]; rfl
  go_wp2_with fail
  refine (cli_rdy (r := zeroR) false (by rfl) h17 (by exact hr4) (by show (1 : Nat) ≤ 1000000; decide)).mono ?_
  rintro e w18 ⟨rfl, h18, k18⟩
  have k18 := k17.trans k18
  clear h17 k17
  go_wp2_with fail
  refine (cli_step_not (r := zeroR) ((h18.pull 2).swap) (by exact hr4) (by show (1 : Nat) ≤ 1000000; decide) (by rfl)).mono ?_
  rintro e w19 ⟨rfl, h19, k19⟩
  have k19 := k18.trans k19
  have h19 := (h19.pull 2).swap
  clear h18 k18
  go_wp2_with fail
  refine (cli_answers h19 (by show (1 : Nat) ≤ 1000000; decide)).mono ?_
  rintro e w20 ⟨v, rfl, h20, k20⟩
  obtain ⟨vo1, vc1, rfl⟩ := h20.tLen
  have k20 := k19.trans k20
  have h20 := h20.tail
  clear h19 k19
  have m0 := (h20.pull 3).cell 0
  have m1 := (h20.pull 3).cell 1
  have m2 := (h20.pull 3).cell 2
  have m3 := (h20.pull 3).cell 3
  have m4 := (h20.pull 3).cell 4
  have m5 := (h20.pull 3).cell 5
  have m6 := (h20.pull 3).cell 6
  simp at m0 m1 m2 m3 m4 m5 m6
  have x0 := (h20.pull 6).cell 0
  have x1 := (h20.pull 6).cell 1
  have x2 := (h20.pull 6).cell 2
  have x3 := (h20.pull 6).cell 3
  have x4 := (h20.pull 6).cell 4
  simp at x0 x1 x2 x3 x4
  obtain ⟨sx, hsx⟩ := conv_arg hxr
  have hcv := hsx (fun a v hc => (h20.pull 7).oldCell hc)
  clear hsx
  have a0 := (h20.pull 5).cell 0
  have a1 := (h20.pull 5).cell 1
  have a2 := (h20.pull 5).cell 2
  have a3 := (h20.pull 5).cell 3
  have a4 := (h20.pull 5).cell 4
  simp at a0 a1 a2 a3 a4
  go_wp2_with fail
  refine (desk_setReply (i := 2) (a := r) (h20.pull 2) (by omega) (by omega) (by rw [h2r]; decide)).mono ?_
  rintro e w21 ⟨rfl, h21, k21⟩
  have k21 := k20.trans k21
  clear h20 k20 m0 m1 m2 m3 m4 m5 m6 x0 x1 x2 x3 x4 a0 a1 a2 a3 a4 hcv
  obtain ⟨D3, hD3⟩ : ∃ D3, ({ tick D2 with reps := D2.reps.set 2 { r with lies := true } } : DeskD) = D3 := ⟨_, rfl⟩
  have h3r : D3.reps = [zeroR, zeroR, { r with lies := true }] := by rw [← hD3]; show D2.reps.set 2 _ = _; rw [h2r]; rfl
  have h3a : D3.acc = 3 := by rw [← hD3]; show D2.acc + 1 = 3; omega
  rw [hD3] at h21
  clear hD3
  go_wp2_with fail
  refine (desk_setReply (i := 1) (a := ⟨0, 0, 7, none, 0, 0, none, 0, 0, false⟩) h21 (by omega) (by omega) (by rw [h3r]; simp)).mono ?_
  rintro e w22 ⟨rfl, h22, k22⟩
  have k22 := k21.trans k22
  clear h21 k21
  obtain ⟨D4, hD4⟩ : ∃ D4, ({ tick D3 with reps := D3.reps.set 1 { (⟨0, 0, 7, none, 0, 0, none, 0, 0, false⟩ : RepD) with lies := true } } : DeskD) = D4 := ⟨_, rfl⟩
  have h4r : D4.reps = [zeroR, ⟨0, 0, 7, none, 0, 0, none, 0, 0, true⟩, { r with lies := true }] := by rw [← hD4]; show D3.reps.set 1 _ = _; rw [h3r]; rfl
  have h4a : D4.acc = 4 := by rw [← hD4]; show D3.acc + 1 = 4; omega
  rw [hD4] at h22
  clear hD4
  have h22 := h22.push 2
  have hr6 : D4.reps[2]? = some { r with lies := true } := by rw [h4r]; rfl
  go_wp2_with fail
  refine (cli_rdy (r := { r with lies := true }) true (by rfl) h22 (by exact hr6) (by show (1 : Nat) ≤ 1000000; decide)).mono ?_
  rintro e w23 ⟨rfl, h23, k23⟩
  have k23 := k22.trans k23
  clear h22 k22
  go_wp2_with fail
  refine (step_take HN.out (a := { r with lies := true }) (x := x) (by show (2 : Nat) ≤ 100000; decide) (by show (1 : Nat) < 1000000; decide) (by show (1 : Nat) ≤ 1000000; decide) (by exact hr6) rfl (by omega) (by omega) (by rfl) rfl h23).mono ?_
  rintro e w24 ⟨rfl, h24, k24⟩
  have k24 := k23.trans k24
  clear h23 k23
  obtain ⟨D5, hD5⟩ : ∃ D5, ({ tick D4 with reps := D4.reps.set 2 zeroR } : DeskD) = D5 := ⟨_, rfl⟩
  have h5r : D5.reps = [zeroR, ⟨0, 0, 7, none, 0, 0, none, 0, 0, true⟩, zeroR] := by rw [← hD5]; show D4.reps.set 2 _ = _; rw [h4r]; rfl
  change Sat w24 (cliP c d s (.func (.func 20) #[] #[.pointer (some ⟨lb, 0, none⟩)]) ⟨2, [call99, x], 2, .begin, false, 0, ⟨0, 0, 0, 0, 0⟩, false, none, [ans1, { r with lies := true }]⟩ :: logP lb [⟨0, 2, 1, 0⟩, ⟨1, 2, 1, 0⟩, ⟨9, 2, 1, r.version⟩] :: deskP d { tick D4 with reps := D4.reps.set 2 zeroR } :: _) at h24
  rw [hD5] at h24
  clear hD5
  go_wp2_with fail
  refine (cli_answers h24 (by show (2 : Nat) ≤ 1000000; decide)).mono ?_
  rintro e w25 ⟨v, rfl, hf, kf⟩
  have kf := k24.trans kf
  clear h24 k24
  rcases hf.tForm with ⟨_, hp⟩ | ⟨ga, oa, ca, rfl⟩
  · simp at hp
  obtain ⟨v, hl⟩ := logP_E (hf.pull 2)
  obtain ⟨lo, lc, rfl⟩ := (hl.pull 1).tLen
  change Sat w25 (own lb (.cells #[.slice lo 3 lc] 37 (0, 0)) :: rowT fEv (.slice lo 3 lc) 41 4 [⟨0, 2, 1, 0⟩, ⟨1, 2, 1, 0⟩, ⟨9, 2, 1, r.version⟩] :: rowT fAn (.slice (some ⟨ga, oa, none⟩) 2 ca) 28 5 [ans1, { r with lies := true }] :: _ :: deskP d D5 :: _ :: _ :: own BA (.cells #[.int .i64 r.e, .int .i64 r.version, .int .i64 r.node, .slice r.kao r.kn r.kc, .slice r.dao r.dn r.dc] 28 (0, 0)) :: _ :: [oldH W]) at hl
  have S0 := wr50 hl
  have HS0 := Lib.hid S0
  have hr7 : D5.reps[2]? = some zeroR := by rw [h5r]; rfl
  have hr8 : D5.reps[1]? = some ⟨0, 0, 7, none, 0, 0, none, 0, 0, true⟩ := by rw [h5r]; rfl
  have hsm : ∀ (W' : World) (l' : List HProp), Sat W' (oldH W :: l') → Calls Tryz.prog 27 #[.agg #[.int .i64 r.e, .int .i64 r.version, .int .i64 r.node, .slice r.kao r.kn r.kc, .slice r.dao r.dn r.dc], .agg #[.int .i64 r.e, .int .i64 r.version, .int .i64 r.node, .slice r.kao r.kn r.kc, .slice r.dao r.dn r.dc]] W' fun e w' => e = .returned (.bool true) ∧ Sat w' (oldH W :: l') ∧ Kp W' w' := fun W' l' h => same13 (r := r) h hkr hdr (by omega)
  have hrd : ∀ (W' : World) (l' : List HProp), Sat W' (cliP c d s (.func (.func 20) #[] #[.pointer (some ⟨lb, 0, none⟩)]) ⟨2, [call99, x], 2, .begin, false, 0, ⟨0, 0, 0, 0, 0⟩, false, none, [ans1, { r with lies := true }]⟩ :: deskP d D5 :: l') → Calls Tryz.prog 26 #[.pointer (some ⟨c, 0, none⟩)] W' fun e w' => e = .returned (.bool false) ∧ Sat w' (cliP c d s (.func (.func 20) #[] #[.pointer (some ⟨lb, 0, none⟩)]) ⟨2, [call99, x], 2, .begin, false, 0, ⟨0, 0, 0, 0, 0⟩, false, none, [ans1, { r with lies := true }]⟩ :: deskP d D5 :: l') ∧ Kp W' w' := fun W' l' h => cli_ready (r := zeroR) h hr7 (by show (2 : Nat) ≤ 1000000; decide)
  have hh2 : ∀ (W' : World) (l' : List HProp), Sat W' (deskP d D5 :: l') → Calls Tryz.prog 30 #[.pointer (some ⟨d, 0, none⟩), .int .i64 2] W' fun e w' => e = .returned (.bool false) ∧ W' = w' := fun W' l' h => desk_has (i := 2) h hr7
  have hh1 : ∀ (W' : World) (l' : List HProp), Sat W' (deskP d D5 :: l') → Calls Tryz.prog 30 #[.pointer (some ⟨d, 0, none⟩), .int .i64 1] W' fun e w' => e = .returned (.bool true) ∧ W' = w' := fun W' l' h => desk_has (i := 1) h hr8
  have hev : ∀ (W' : World) (l' : List HProp), Sat W' (rowT fEv (.slice lo 3 lc) 41 4 [⟨0, 2, 1, 0⟩, ⟨1, 2, 1, 0⟩, ⟨9, 2, 1, r.version⟩] :: l') → Calls Tryz.prog 22 #[.slice lo 3 lc, .slice (some ⟨W'.heap.size, 0, none⟩) 3 3] (W'.alloc (.cells #[.int .i64 0, .int .i64 2, .int .i64 1, .int .i64 0, .int .i64 1, .int .i64 2, .int .i64 1, .int .i64 0, .int .i64 9, .int .i64 2, .int .i64 1, .int .i64 r.version] 41)) fun e w' => e = .returned (.bool true) ∧ Sat w' (rowT fEv (.slice lo 3 lc) 41 4 [⟨0, 2, 1, 0⟩, ⟨1, 2, 1, 0⟩, ⟨9, 2, 1, r.version⟩] :: rowT fEv (.slice (some ⟨W'.heap.size, 0, none⟩) 3 3) 41 4 [⟨0, 2, 1, 0⟩, ⟨1, 2, 1, 0⟩, ⟨9, 2, 1, r.version⟩] :: l') ∧ Kp W' w' := fun W' l' h => (events_same ((rowEv3 ⟨0, 2, 1, 0⟩ ⟨1, 2, 1, 0⟩ ⟨9, 2, 1, r.version⟩ h).swap) (by show (3 : Nat) ≤ 1000; decide)).mono fun e w' ⟨x1, x2, x3⟩ => ⟨x1, x2, ((Kp.refl W').alloc _).trans x3⟩
  have HEV := Lib.hid hev
  clear hev
  have HSM := Lib.hid hsm
  have HRD := Lib.hid hrd
  have HH2 := Lib.hid hh2
  have HH1 := Lib.hid hh1
  obtain ⟨s0, q0, q1, q2, q3, q4, a0, a1, a2, a3, a4⟩ := S0
  have hgl := (hl.pull 2).rowBlock
  have hll := hl.lt
  have hal := (hl.pull 7).lt
  clear hsm hrd hh2 hh1 hr7 hr8 hf
  go_upto_region 50 with (fail)
  go_region_held3 (fun w' => w'.cell? ⟨lb, 0, none⟩ = some (.slice lo 3 lc) ∧ w'.cell? ⟨ga, oa + 5, none⟩ = some (.int .i64 r.e) ∧ w'.cell? ⟨ga, oa + 5 + 1, none⟩ = some (.int .i64 r.version) ∧ w'.cell? ⟨ga, oa + 5 + 2, none⟩ = some (.int .i64 r.node) ∧ w'.cell? ⟨ga, oa + 5 + 3, none⟩ = some (.slice r.kao r.kn r.kc) ∧ w'.cell? ⟨ga, oa + 5 + 4, none⟩ = some (.slice r.dao r.dn r.dc) ∧ w'.cell? ⟨BA, 0, none⟩ = some (.int .i64 r.e) ∧ w'.cell? ⟨BA, 1, none⟩ = some (.int .i64 r.version) ∧ w'.cell? ⟨BA, 2, none⟩ = some (.int .i64 r.node) ∧ w'.cell? ⟨BA, 3, none⟩ = some (.slice r.kao r.kn r.kc) ∧ w'.cell? ⟨BA, 4, none⟩ = some (.slice r.dao r.dn r.dc)) (first | with_reducible exact HS0.out | with_reducible exact SA | with_reducible exact SB | with_reducible exact SE | go_keep)
    ((first | (go_at_call 27; (with_reducible refine (HSM.out _ _ (hl.pull 9).drew).mono ?_); rintro e wA ⟨rfl, hA, kA⟩; have SA := wr50 hA.tail) | (go_at_call 26; (with_reducible refine (HRD.out _ _ ((hA.pull 5).pull 5)).mono ?_); rintro e wB ⟨rfl, hB, kB⟩; have SB := wr50 ((hB.push 5).push 5).tail) | (go_at_call 30; (with_reducible refine (HH2.out _ _ (hB.pull 1)).mono ?_); rintro e wC ⟨rfl, rfl⟩) | (go_at_call 30; (with_reducible refine (HH1.out _ _ (hB.pull 1)).mono ?_); rintro e wD ⟨rfl, rfl⟩) | (go_at_call 22; (with_reducible refine (HEV.out _ _ (hB.pull 4)).mono ?_); rintro e wE ⟨rfl, hE, kE⟩; have SE := wr50 (((((hE.pull 5).pull 6).push 2).pull 9).push 7))))
  all_goals
    go_wp2_with fail
    go_ret
    exact ⟨rfl, Sat.below (hE.pull 4) (((kf.drew.trans kA).trans kB).trans kE)⟩

end Go.Proofs.YtddglbjhhnipgaaGreatDoor

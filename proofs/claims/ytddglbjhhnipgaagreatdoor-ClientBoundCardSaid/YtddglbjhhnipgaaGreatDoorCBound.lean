import Derived.Test.YtddglbjhhnipgaaGreatDoorHM
import Derived.Test.YtddglbjhhnipgaaGreatDoorJA
import Derived.Test.YtddglbjhhnipgaaGreatDoorHL
import Derived.Test.YtddglbjhhnipgaaGreatDoorIT
import Derived.Deep.RegionHeld3
namespace Go.Proofs.YtddglbjhhnipgaaGreatDoor
open Go Go.RowKit
set_option linter.unusedVariables false
set_option linter.unusedSimpArgs false
set_option maxRecDepth 100000
set_option maxHeartbeats 8000000
theorem load_root_c {w : World} {l : List HProp} {m : Nat} {most : Int} {A : List SlotK} {F : List Int} {T : HTK} {v : VerD} (hs : Sat w (mapK m most A F :: l)) (hR : RepO A T) (hk : v.ks = T.root.s ∧ v.kg = T.root.g) :
   Calls Tryz.prog 40 #[.pointer (some ⟨m, 0, none⟩), .agg #[.int .i64 v.ks, .int .i64 v.kg]] w fun e w' => ∃ k b lh rh bb, e = .returned (.tuple #[.agg (nodC k b lh rh T.high), .bool bb]) ∧ Sat w' (mapK m most A F :: l) ∧ Kp w w' := by
 rw [hk.1, hk.2]
 exact load_root hs hR
theorem field_version1 (n ks kg ss sg : Int) (W : World) : (Instr.field 58 (.agg #[.int .i64 n, .int .i64 ks, .int .i64 kg, .int .i64 ss, .int .i64 sg]) 1).run Tryz.prog W = .ok (.agg #[.int .i64 ks, .int .i64 kg]) W := by
 first | kernel_rfl | rfl | simp [Instr.field, go_sem]
theorem send_any {w : World} {l : List HProp} {d : Nat} {D : DeskD} {m : MsgD} (hs : Sat w (deskP d D :: l)) (h0 : 0 ≤ D.acc) (h1 : D.acc < 1000000000) (hc : D.closed = false) (hm : D.most = 4) (hl : D.msgs.length ≤ 4) :
   Calls Tryz.prog 52 #[.pointer (some ⟨d, 0, none⟩), aggM m] w fun e w' => ∃ (r : Int) (ms' : List MsgD), e = .returned (.int .i64 r) ∧ ms'.length ≤ 4 ∧ Sat w' (deskP d { tick D with msgs := ms' } :: l) ∧ Kp w w' := by
 by_cases hf : (D.msgs.length : Int) < D.most
 · refine (desk_send hs h0 h1 hc hf (by rw [hm]; decide)).mono ?_
   rintro e w1 ⟨rfl, h2, k2⟩
   exact ⟨0, _, rfl, by rw [List.length_append, List.length_singleton]; omega, h2, k2⟩
 · refine (desk_send_full hs h0 h1 hc (by omega)).mono ?_
   rintro e w1 ⟨rfl, h2, k2⟩
   exact ⟨7, D.msgs, rfl, hl, h2, k2⟩
theorem ansS {w : World} {l : List HProp} {vg vo vc T : Nat} {r : RepD} {c0 c1 c2 c3 c4 : Value} {ta tt : TypeId} (h : Sat w (rowT fAn (.slice (some ⟨vg, vo, none⟩) 1 vc) ta 5 [r] :: own T (.cells #[c0, c1, c2, c3, c4] tt (0, 0)) :: l)) :
   (w.cell? ⟨vg, vo, none⟩ = some (.int .i64 r.e) ∧ w.cell? ⟨vg, vo + 1, none⟩ = some (.int .i64 r.version) ∧ w.cell? ⟨vg, vo + 2, none⟩ = some (.int .i64 r.node) ∧ w.cell? ⟨vg, vo + 3, none⟩ = some (.slice r.kao r.kn r.kc) ∧ w.cell? ⟨vg, vo + 4, none⟩ = some (.slice r.dao r.dn r.dc)) ∧
   (w.cell? ⟨T, 0, none⟩ = some c0 ∧ w.cell? ⟨T, 1, none⟩ = some c1 ∧ w.cell? ⟨T, 2, none⟩ = some c2 ∧ w.cell? ⟨T, 3, none⟩ = some c3 ∧ w.cell? ⟨T, 4, none⟩ = some c4) := by
 have x0 := h.tCell len_fAn 0 0 rfl rfl
 have x1 := h.tCell len_fAn 0 1 rfl rfl
 have x2 := h.tCell len_fAn 0 2 rfl rfl
 have x3 := h.tCell len_fAn 0 3 rfl rfl
 have x4 := h.tCell len_fAn 0 4 rfl rfl
 simp only [Nat.zero_mul, Nat.add_zero, Nat.zero_add] at x0 x1 x2 x3 x4
 exact ⟨⟨x0, x1, x2, x3, x4⟩, (h.pull 1).cell 0, (h.pull 1).cell 1, (h.pull 1).cell 2, (h.pull 1).cell 3, (h.pull 1).cell 4⟩
theorem get_idx (s : ByteArray) (j : Nat) (h : j < s.size) : s[j]'h = s.get! j := by
 obtain ⟨b⟩ := s
 show b[j]'h = b[j]!
 exact (getElem!_pos b j h).symm
theorem vgs0 {w : World} {l : List HProp} {s mk ms : Nat} {ts : TypeId} (h : Sat w (own s (.cells (stoC mk ms) ts (0, 0)) :: l)) : w.cell? ⟨s, 0, none⟩ = some (.pointer (some ⟨mk, 0, none⟩)) := h.cell 0
theorem clientBound_walk (ao : Option Addr) (n cap : Nat) (ts : List TinyD) (list : Bool) (path : ByteArray) (eao : Option Addr) (en ecap : Nat) (xs : List Int) (W : World) (hr : ArgRow W fT ao n cap ts) (hok : ∀ t ∈ ts, TinyOk t) (her : ArgRow W fU eao en ecap xs) (hxs : ∀ x ∈ xs, 0 ≤ x ∧ x < 256) (hT : Lib.Utf8Tabs (validS_ren.g 3) (validS_ren.g 4) W) :
   LawCalls Tryz.prog 10 #[.slice ao n cap, .bool list, .string path, .slice eao en ecap] W := by
 have H0 := Sat.start W
 have hle := hr.le
 have hsm := hr.small
 unfold maxLen at hsm
 have HL := Lib.hid hr.len
 have HT := Lib.hid hT
 have HR := Lib.hid hr
 have HOK := Lib.hid hok
 have HER := Lib.hid her
 have HXS := Lib.hid hxs
 have hel := her.le
 have hes := her.small
 unfold maxLen at hes
 clear her hxs
 clear hT hr hok
 go_enter Tryz.func10, Tryz.ntmps10
 go_wp2_with fail
 refine (client_awake H0).mono ?_
 rintro e w1 ⟨rfl, h1, k1⟩
 clear H0
 by_cases hmost : 12 < n
 · have hmost' : (12 : Int) < (n : Int) := by omega
   clear hmost
   go_wp2_with fail
   go_ret
   exact ⟨rfl, h1.below k1⟩
 have hmost' : ¬ (12 : Int) < (n : Int) := by omega
 by_cases hlong : 450 < path.size
 · have hlong' : (450 : Int) < (path.size : Int) := by omega
   clear hlong
   go_wp2_with fail
   go_ret
   exact ⟨rfl, h1.below k1⟩
 have hlong' : ¬ (450 : Int) < (path.size : Int) := by omega
 have hgr := ver_grownC (num := 5) (queue := 4) (by decide) (by decide) h1 HR.out HOK.out (by omega)
 clear h1
 go_wp2_with fail
 refine hgr.mono ?_
 rintro e w2 hQ
 clear hgr
 unfold GrownC at hQ
 obtain ⟨d, s, mk, ms, L, v, vl, AK, FK, AS, FS, GK, GS, tK, tS, ks, rfl, hE, hE2, hvn, hV, r1, r2, r3, r4, h2, k2⟩ := hQ
 have k2 := k1.trans k2
 have hg := grow_grown (ts.map ofT)
 generalize (growT (ts.map ofT)).1 = f at hE hE2 hg
 have h0 : f 0 = none := hg.low (by decide)
 have hpos : ∀ y ∈ ks, 0 ≤ y.node := fun y hy => by have := (hg.dom _ _ (hE2.mem y hy)).1; omega
 have hks8 : ks.length ≤ 8 := by
   have := nodup_le 8 256 (ks.map KidD.node) hE2.nodup (fun x hx => by
     obtain ⟨y, hy, rfl⟩ := List.mem_map.1 hx
     obtain ⟨h1, o, ho, h2⟩ := hg.dom y.node _ (hE2.mem y hy)
     obtain ⟨t, ht, rfl⟩ := List.mem_map.1 ho
     have h3 : 256 + t.node % 8 = y.node := h2
     omega)
   simpa using this
 have hL8 : L.length ≤ 8 := by rw [(enumk_perm hE hE2).length_eq]; exact hks8
 have hB := base_of hV hE2 hpos
 have hT8 : tK.size ≤ 8 := Nat.le_trans hV.zk hks8
 obtain ⟨a, er, hA⟩ := findA_ex hE path
 obtain ⟨Nn, hI, hN⟩ := step_new list hB hA h0
 have HNN := Lib.hid hN
 have HTR := Lib.hid hV.k.rep
 have HVK := Lib.hid (And.intro hV.ks hV.kg)
 have HB := Lib.hid hB
 have HLT := Lib.hid (And.intro hks8 hT8)
 have HI := Lib.hid hI
 have HF := Lib.hid (And.intro hA (And.intro hE (And.intro hE2 (And.intro hL8 (And.intro hks8 hvn)))))
 obtain ⟨lao, lcap, rfl, _⟩ := (h2.pull 4).poolArg (v := vl) (ks := L) (by simp)
 obtain ⟨D0, hD0⟩ : ∃ D : DeskD, D = { tick (newD 3 4) with n := v.n, ks := v.ks, kg := v.kg, ss := v.ss, sg := v.sg } := ⟨_, rfl⟩
 rw [← hD0] at h2
 have HD0 := Lib.hid (show verOf D0 = v ∧ D0.pins = [0, 0, 0] ∧ D0.reps = [zeroR, zeroR, zeroR] ∧ D0.acc = 1 ∧ D0.most = 4 ∧ D0.msgs = [] ∧ D0.closed = false ∧ D0.epoch = 0 by subst hD0; exact ⟨rfl, rfl, rfl, rfl, rfl, rfl, rfl, rfl⟩)
 clear hE hE2 hg h0 hpos hks8 hL8 hB hT8 hA hI hN hV r1 r2 r3 r4 k1 hvn hD0
 have h3 := h2.alloc (.cells #[.int .i64 3, .int .i64 0, .int .i64 0, .string path, .slice none 0 0] 24)
 have k3 := k2.alloc (.cells #[.int .i64 3, .int .i64 0, .int .i64 0, .string path, .slice none 0 0] 24)
 clear h2 k2
 obtain ⟨kd, hkd⟩ : ∃ kd : Int, kd = if list = true then 4 else 3 := ⟨_, rfl⟩
 have HKD := Lib.hid hkd
 go_upto_if 43 with (fail)
 generalize World.alloc _ _ = w3 at h3 k3 ⊢
 generalize w2.heap.size = X at h3 ⊢
 have x0 := (h3).cell 0
 have xf0 := (h3).free 0
 simp at x0
 have hxl := h3.lt
 go_cut [13] from 44 to 44 (fun xv wx => xv = .pointer (some ⟨X, 0, none⟩) ∧ Sat wx (own X (.cells #[.int .i64 kd, .int .i64 0, .int .i64 0, .string path, .slice none 0 0] 24 (0, 0)) :: deskP d D0 :: own s (.cells (stoC mk ms) 80 (0, 0)) :: mapK mk 2000 AK FK :: mapS ms 2000 AS FS :: poolP fK [(.slice lao L.length lcap, L)] :: oldH W :: []) ∧ Kp W wx)
 case first =>
   cases list with
   | true =>
     have h4 := h3.set 0 (.int .i64 4)
     have k4 := k3.setCell ⟨X, 0, none⟩ (.int .i64 4)
     go_wp2_with fail
     go_meet
     case rel => exact ⟨rfl, by rw [hkd]; exact h4, k4⟩
   | false =>
     go_wp2_with fail
     go_meet
     case rel => exact ⟨rfl, by rw [hkd]; exact h3, k3⟩
 case rest =>
   clear h3 k3 x0 xf0 hxl hkd
   obtain ⟨rfl, h4, k4⟩ := hcut
   have x0 := (h4).cell 0
   have x1 := (h4).cell 1
   have x2 := (h4).cell 2
   have x3 := (h4).cell 3
   have x4 := (h4).cell 4
   simp at x0 x1 x2 x3 x4
   have hxl := h4.lt
   have h5 := rowCa1 ⟨kd, 0, 0, path, none, 0, 0⟩ h4
   have k5 := k4.alloc (.cells #[.int .i64 kd, .int .i64 0, .int .i64 0, .string path, .slice none 0 0] 24)
   have hmf : ∀ (fn : Fn) (first cap : Array Value) (w : World), (Instr.makeFunc fn first cap).run Tryz.prog w = .ok (.func fn first cap) w := fun _ _ _ _ => rfl
   have hnc := cli_new (d := d) (s := s) (i := 0) (k := 48) (cap := #[]) h5 (by simp)
   clear h4 k4 h5
   go_wp2_with fail
   refine hnc.mono ?_
   rintro e w6 ⟨c, rfl, h6, k6⟩
   have k6 := k5.trans k6
   obtain ⟨xc, hxc⟩ : ∃ xc : CallD, xc = ⟨kd, 0, 0, path, none, 0, 0⟩ := ⟨_, rfl⟩
   have HXC := Lib.hid (show xc.kind = (if list = true then 4 else 3) ∧ xc.text = path by rw [hxc]; exact ⟨HKD.out, rfl⟩)
   rw [← hxc] at h6
   clear hxc
   clear hnc k5 x0 x1 x2 x3 x4 hxl hmf
   have h7 := ((((h6).pull 1).tail).pull 1).tail
   clear h6
   have rt := fun (W' : World) (l' : List HProp) (hW' : Sat W' (deskP d D0 :: l')) => desk_root hW' (by rw [HD0.out.2.2.2.1]; decide) (by rw [HD0.out.2.2.2.1]; decide)
   have hv0 := HD0.out.1
   have e1 : D0.n = v.n := by rw [← hv0]; rfl
   have e2 : D0.ks = v.ks := by rw [← hv0]; rfl
   have e3 : D0.kg = v.kg := by rw [← hv0]; rfl
   have e4 : D0.ss = v.ss := by rw [← hv0]; rfl
   have e5 : D0.sg = v.sg := by rw [← hv0]; rfl
   rw [e1, e2, e3, e4, e5] at rt
   have ld := fun (W' : World) (l' : List HProp) (hW' : Sat W' (mapK mk 2000 AK FK :: l')) => load_root_c (v := v) hW' HTR.out HVK.out
   unfold nodC at ld
   have RT := Lib.hid rt
   have LD := Lib.hid ld
   have hfv := fun (W' : World) => field_version1 v.n v.ks v.kg v.ss v.sg W'
   clear rt ld hv0 e1 e2 e3 e4 e5
   go_upto_region 13 with (fail)
   have hy_0 := ((h7).pull 1).drew
   have z_0 := RT.out _ _ hy_0
   clear hy_0
   have hy_a := (((h7).alloc (.cells #[.int .i64 0, .string ⟨#[]⟩, .int .i64 0, .bool false, .int .i64 0, .int .i64 0, .int .i64 0, .int .i64 0, .int .i64 0] 75)).pull 2).drew
   have z_a := RT.out _ _ hy_a
   clear hy_a
   go_cut [15, 16] from 53 (fun nv ov wx => ∃ (Q : Nat) (kq : KidD) (bq : Bool) (lh rh : Hd) (bb : Bool), nv = .pointer (some ⟨Q, 0, none⟩) ∧ ov = .bool bb ∧ Sat wx (own Q (.cells (nodC kq bq lh rh tK.high) 75 (0, 0)) :: mapK mk 2000 AK FK :: cliP c d s (.func (.func 48) #[] #[]) (newC 0 [xc]) :: deskP d (tick D0) :: own s (.cells (stoC mk ms) 80 (0, 0)) :: mapS ms 2000 AS FS :: poolP fK [(.slice lao L.length lcap, L)] :: oldH W :: []) ∧ Kp W wx)
   case first =>
     have S0 := vgs0 ((h7).pull 2)
     have HS0 := Lib.hid S0
     clear S0
     have SH := vgs0 ((h7.drew).pull 2)
     have SH1 := fun (c1 : Array Value) (q1 : TypeId) => vgs0 ((((h7).alloc (.cells c1 q1)).drew).pull 3)
     go_region_held3 (fun w' => w'.cell? ⟨s, 0, none⟩ = some (.pointer (some ⟨mk, 0, none⟩))) (first | with_reducible exact HS0.out | with_reducible exact SH | with_reducible exact SH1 _ _ | with_reducible exact SA | with_reducible exact SA1 _ _ | with_reducible exact SF | with_reducible exact SF1 _ _ | with_reducible exact SGa _ _ _ _ _ _ _ _ _ | fail) ((first
       | (go_at_call 49; (with_reducible refine z_0.mono ?_); rintro z wq ⟨rfl, h_0, k_0⟩; have kk0 := (k6.drew).trans k_0; have SA := vgs0 ((h_0).pull 2); have SA1 := fun (c1 : Array Value) (q1 : TypeId) => vgs0 (((h_0).alloc (.cells c1 q1)).pull 3); have hy_0_0 := (h_0).pull 3; have z_0_0 := LD.out _ _ hy_0_0; clear hy_0_0; have hy_0_a := ((h_0).alloc (.cells #[.int .i64 0, .string ⟨#[]⟩, .int .i64 0, .bool false, .int .i64 0, .int .i64 0, .int .i64 0, .int .i64 0, .int .i64 0] 75)).pull 4; have z_0_a := LD.out _ _ hy_0_a; clear hy_0_a)
       | (go_at_call 49; (with_reducible refine z_a.mono ?_); rintro z wq ⟨rfl, h_0, k_0⟩; have kk0 := ((k6.alloc (.cells #[.int .i64 0, .string ⟨#[]⟩, .int .i64 0, .bool false, .int .i64 0, .int .i64 0, .int .i64 0, .int .i64 0, .int .i64 0] 75)).drew).trans k_0; have SA := vgs0 ((h_0).pull 3); have hy_a_0 := (h_0).pull 4; have z_a_0 := LD.out _ _ hy_a_0; clear hy_a_0)
       | (go_at_call 40; (with_reducible refine z_0_0.mono ?_); rintro z wp ⟨kq, bq, lh, rh, bb, rfl, h_1, k_1⟩; have kk1 := (kk0).trans k_1; have hF := ((h_1).pull 2).pull 1; have SF := vgs0 ((hF).pull 3); have SF1 := fun (c1 : Array Value) (q1 : TypeId) => vgs0 (((hF).alloc (.cells c1 q1)).pull 4); have fin0 := hF)
       | (go_at_call 40; (with_reducible refine z_0_a.mono ?_); rintro z wp ⟨kq, bq, lh, rh, bb, rfl, h_1, k_1⟩; have kk1 := ((kk0.alloc (.cells #[.int .i64 0, .string ⟨#[]⟩, .int .i64 0, .bool false, .int .i64 0, .int .i64 0, .int .i64 0, .int .i64 0, .int .i64 0] 75))).trans k_1; have hF := (((h_1).pull 3).pull 1).pull 2; have SF := vgs0 ((hF).pull 4); have SGa := fun (x0 x1 x2 x3 x4 x5 x6 x7 x8 : Value) => vgs0 ((((((((((((hF).set 0 x0).set 1 x1).set 2 x2).set 3 x3).set 4 x4).set 5 x5).set 6 x6).set 7 x7).set 8 x8)).pull 4); have na0 := hF.cell 0; have na1 := hF.cell 1; have na2 := hF.cell 2; have na3 := hF.cell 3; have na4 := hF.cell 4; have na5 := hF.cell 5; have na6 := hF.cell 6; have na7 := hF.cell 7; have na8 := hF.cell 8; have naf0 := hF.free 0; have naf1 := hF.free 1; have naf2 := hF.free 2; have naf3 := hF.free 3; have naf4 := hF.free 4; have naf5 := hF.free 5; have naf6 := hF.free 6; have naf7 := hF.free 7; have naf8 := hF.free 8; simp at na0 na1 na2 na3 na4 na5 na6 na7 na8; have nal := hF.lt; have fina := hF)
       | (go_at_call 40; (with_reducible refine z_a_0.mono ?_); rintro z wp ⟨kq, bq, lh, rh, bb, rfl, h_1, k_1⟩; have kk1 := (kk0).trans k_1; have hF := (((h_1).pull 3).pull 1).pull 3; have SF := vgs0 ((hF).pull 4); have SGa := fun (x0 x1 x2 x3 x4 x5 x6 x7 x8 : Value) => vgs0 ((((((((((((hF).set 0 x0).set 1 x1).set 2 x2).set 3 x3).set 4 x4).set 5 x5).set 6 x6).set 7 x7).set 8 x8)).pull 4); have na0 := hF.cell 0; have na1 := hF.cell 1; have na2 := hF.cell 2; have na3 := hF.cell 3; have na4 := hF.cell 4; have na5 := hF.cell 5; have na6 := hF.cell 6; have na7 := hF.cell 7; have na8 := hF.cell 8; have naf0 := hF.free 0; have naf1 := hF.free 1; have naf2 := hF.free 2; have naf3 := hF.free 3; have naf4 := hF.free 4; have naf5 := hF.free 5; have naf6 := hF.free 6; have naf7 := hF.free 7; have naf8 := hF.free 8; simp at na0 na1 na2 na3 na4 na5 na6 na7 na8; have nal := hF.lt; have fina := hF)))
     all_goals
       go_wp2_with fail
       go_meet
       case rel =>
         first
         | (have hq := naf8
            exact ⟨_, kq, bq, lh, rh, bb, rfl, rfl, load2g fina.swap, Kp.putCells [.int .i64 kq.up, .string kq.name, .int .i64 kq.node, .bool bq, .int .i64 lh.s, .int .i64 lh.g, .int .i64 rh.s, .int .i64 rh.g, .int .i64 tK.high] 0 kk1⟩)
         | exact ⟨_, kq, bq, lh, rh, bb, rfl, rfl, load1 fin0, kk1.alloc _⟩
   case rest =>
     clear z_0 z_a h7 k6 hfv
     obtain ⟨Q, kq, bq, lh, rh, bb, rfl, rfl, h8, k8⟩ := hcut
     have hra := ref_answer (num := 5) (list := list) (path := path) (h8.pull 6) HF.out.2.1 (Nat.le_trans HF.out.2.2.2.1 (by decide))
     clear h8
     go_wp2_with fail
     refine hra.mono ?_
     rintro z w9 ⟨a', e', v', hA', rfl, h9, k9⟩
     clear hra
     obtain ⟨rfl, rfl⟩ := hA'.uniq HF.out.1
     have k9 := k8.trans k9
     obtain ⟨wo, wc, rfl⟩ := h9.tLen
     have hwz : (kidsA L list a' e').length ≤ 8 := Nat.le_trans (kidsA_len _ _ _ _) HF.out.2.2.2.1
     generalize hwn : (kidsA L list a' e').length = wn at h9 hwz ⊢
     have HWN := Lib.hid hwn
     have h10 := h9.alloc (.cells #[.int .i64 e', .int .i64 5, .int .i64 a', .slice wo wn wc, .slice none 0 0] 28)
     have k10 := k9.alloc (.cells #[.int .i64 e', .int .i64 5, .int .i64 a', .slice wo wn wc, .slice none 0 0] 28)
     clear h9 k8 k9 hwn hA'
     go_upto_region 15 with (fail)
     generalize World.alloc _ _ = w10 at h10 k10 ⊢
     generalize w9.heap.size = T at h10 ⊢
     have h11 : Sat w10 (cliP c d s (.func (.func 48) #[] #[]) (newC 0 [xc]) :: emp :: deskP d (tick D0) :: rdPiece .begin :: oldH W :: own s (.cells (stoC mk ms) 80 (0, 0)) :: mapK mk 2000 AK FK :: mapS ms 2000 AS FS :: own Q (.cells (nodC kq bq lh rh tK.high) 75 (0, 0)) :: own T (.cells #[.int .i64 e', .int .i64 5, .int .i64 a', .slice wo wn wc, .slice none 0 0] 28 (0, 0)) :: rowT fK (.slice wo wn wc) 73 3 (kidsA L list a' e') :: []) := (((((((((h10.emp.emp).pull 4).pull 9).pull 6).pull 9).pull 10).pull 6).pull 10).pull 7).pull 10
     clear h10
     go_wp2_with fail
     go_loopw [18] (fun kv wr => ∃ (k : Nat) (ph : RdPh) (C : CliD) (D : DeskD), kv = .int .i64 k ∧ Hid (RdOk f ks AK tK list v Nn a' e' 0 xc ph C) ∧ Hid (RdK k ph) ∧ Hid ((k ≤ 2 → verOf D = v) ∧ D.reps[0]? = some zeroR ∧ D.pins.length = 3 ∧ D.most = 4 ∧ D.closed = false ∧ D.msgs.length ≤ 4 ∧ -1000000000 ≤ D.epoch ∧ D.epoch ≤ 1000000000) ∧ 0 ≤ D.acc ∧ D.acc ≤ 10 + 10 * k ∧ Sat wr (cliP c d s (.func (.func 48) #[] #[]) C :: emp :: deskP d D :: rdPiece ph :: oldH W :: own s (.cells (stoC mk ms) 80 (0, 0)) :: mapK mk 2000 AK FK :: mapS ms 2000 AS FS :: own Q (.cells (nodC kq bq lh rh tK.high) 75 (0, 0)) :: own T (.cells #[.int .i64 e', .int .i64 5, .int .i64 a', .slice wo wn wc, .slice none 0 0] 28 (0, 0)) :: rowT fK (.slice wo wn wc) 73 3 (kidsA L list a' e') :: []) ∧ Kp W wr) (fun kv _ => 300 - (intOf kv).toNat)
     case atStart => exact ⟨0, .begin, newC 0 [xc], tick D0, rfl, Lib.hid (rd_begin 0 xc), Lib.hid rfl, Lib.hid ⟨fun _ => HD0.out.1, by show D0.reps[0]? = _; rw [HD0.out.2.2.1]; rfl, by show D0.pins.length = 3; rw [HD0.out.2.1]; rfl, HD0.out.2.2.2.2.1, HD0.out.2.2.2.2.2.2.1, by show D0.msgs.length ≤ 4; rw [HD0.out.2.2.2.2.2.1]; decide, by show -1000000000 ≤ D0.epoch; rw [HD0.out.2.2.2.2.2.2.2]; decide, by show D0.epoch ≤ 1000000000; rw [HD0.out.2.2.2.2.2.2.2]; decide⟩, by show 0 ≤ D0.acc + 1; rw [HD0.out.2.2.2.1]; decide, by show D0.acc + 1 ≤ _; rw [HD0.out.2.2.2.1]; decide, h11, k10⟩
     case round =>
       clear h11 k10 HD0
       obtain ⟨k, ph, C, D, rfl, HOKR, HRK, HDV, hD0, hD1, h12, k12⟩ := hrel
       have hk85 := HRK.out.le
       have hk300 : (k : Int) < 300 := by omega
       have hk0 : (0 : Int) ≤ (k : Int) := by omega
       have hwk : IntKind.i64.wrap ((k : Int) + 1) = (k : Int) + 1 := by rw [IntWalk.i64_in _ (by omega)]
       obtain ⟨q1, q2, q3, q4, q5⟩ := HOKR.out.rdc
       have hrp : D.reps[C.i]? = some zeroR := by rw [q2]; exact HDV.out.2.1
       have hat : C.at' ≤ 1000000 := by rw [q3]; split <;> decide
       cases hdn : isDone ph with
       | true =>
         have hrd := cli_rdy (r := zeroR) false (by rw [rd_ready HOKR.out, hdn]; rfl) h12 hrp hat
         obtain ⟨fb, F, ko, kn, kc, rfl⟩ := isDone_ex hdn
         clear h12 hdn q1 q2 q3 q4 q5
         go_wp2_with fail
         refine hrd.mono ?_
         rintro z w13 ⟨rfl, h13, k13⟩
         have k13 := k12.trans k13
         clear hrd k12
         have HNS := Lib.hid (fun (i : Nat) (h : i < path.size) => namesC_succ (path := path) h)
         go_wp2_with fail
         go_loopw [19, 20] (fun nv iv wx => ∃ j : Nat, iv = .int .i64 j ∧ j ≤ path.size ∧ nv = .int .i64 (namesC path j) ∧ w13 = wx) (fun _ iv _ => path.size - (intOf iv).toNat)
         case atStart => exact ⟨0, rfl, Nat.zero_le _, by rw [namesC_zero]; rfl, rfl⟩
         case round =>
           obtain ⟨j, rfl, hj, rfl, rfl⟩ := hrel
           have hj0 : (0 : Int) ≤ (j : Int) := by omega
           by_cases hjl : j < path.size
           · have hjl' : (j : Int) < (path.size : Int) := by omega
             have hj450 : (j : Int) < 450 := by omega
             have hnl := namesC_le path j
             have hs := HNS.out j hjl
             have hwj : IntKind.i64.wrap ((j : Int) + 1) = (j : Int) + 1 := by rw [IntWalk.i64_in _ (by omega)]
             have hwn2 : IntKind.i64.wrap ((namesC path j : Int) + 1) = (namesC path j : Int) + 1 := by rw [IntWalk.i64_in _ (by omega)]
             have hge := get_idx path j hjl
             by_cases h47 : path.get! j = 47
             · by_cases hp : path = ⟨#[47]⟩
               · rw [if_neg (fun c => c.2 hp)] at hs
                 have hpl : (path.toList == [47]) = true := by rw [hp, ByteArray.toList_eq]; rfl
                 rw [h47] at hge
                 have hgi : ((path[j]'hjl).toNat : Int) = 47 := by rw [hge]; rfl
                 clear hp
                 go_wp2_with fail
                 go_roundw
                 case rel => exact ⟨j + 1, by go_num, by omega, by rw [hs]; rfl, trivial⟩
                 case measure => simp [intOf]; omega
               · rw [if_pos ⟨h47, hp⟩] at hs
                 have hpl : (path.toList == [47]) = false := by
                   rw [beq_eq_false_iff_ne]
                   exact fun e => hp (name_eq (b := ⟨#[47]⟩) (by rw [e, ByteArray.toList_eq]))
                 rw [h47] at hge
                 have hgi : ((path[j]'hjl).toNat : Int) = 47 := by rw [hge]; rfl
                 clear hp
                 go_wp2_with fail
                 go_roundw
                 case rel => exact ⟨j + 1, by go_num, by omega, by rw [hs]; push_cast; rfl, trivial⟩
                 case measure => simp [intOf]; omega
             · rw [if_neg (fun c => h47 c.1)] at hs
               have h47n : ¬ (path.get! j).toNat = 47 := fun e => h47 (by rw [← UInt8.toNat_inj]; exact e)
               rw [← hge] at h47n
               have h47i : ¬ ((path[j]'hjl).toNat : Int) = 47 := by omega
               have h47b : (((path[j]'hjl).toNat : Int) == 47) = false := by rw [beq_eq_false_iff_ne]; exact h47i
               have h47d : decide (((path[j]'hjl).toNat : Int) = 47) = false := by rw [decide_eq_false_iff_not]; exact h47i
               clear h47 hge
               go_wp2_with fail
               go_roundw
               case rel => exact ⟨j + 1, by go_num, by omega, by rw [hs]; rfl, trivial⟩
               case measure => simp [intOf]; omega
           · obtain rfl : j = path.size := by omega
             have hjl' : ¬ (path.size : Int) < (path.size : Int) := by omega
             clear hjl
             have hnl := namesC_le path path.size
             obtain ⟨hR, hFD⟩ := HOKR.out
             have hfb := few_bound HB.out hFD
             have hh := HB.out.sub.hi.pos
             have hh0 : 0 ≤ tK.high := hh.1
             have hh8 : tK.high ≤ 8 := by have := HLT.out.2; omega
             have hNle : Nn ≤ namesC path path.size := by
               rcases HNN.out with ⟨_, _, h⟩ | ⟨nm, h1, h2, _⟩
               · omega
               · rw [h2]; exact namesC_path h1
             have hNm : (Nn : Int) * tK.high ≤ (namesC path path.size : Int) * tK.high := Int.mul_le_mul_of_nonneg_right (by omega) hh0
             have hkl : F.kids.length = wn := by rw [hFD.ans, kidsA_same HF.out.2.2.1 HF.out.2.1]; exact HWN.out
             have hN1 : (namesC path path.size : Int) * tK.high ≤ 3600 := by
               have := Int.mul_le_mul (a := (namesC path path.size : Int)) (b := tK.high) (c := 450) (d := 8) (by omega) hh8 hh0 (by omega)
               omega
             have hN0 : 0 ≤ (namesC path path.size : Int) * tK.high := Int.mul_nonneg (by omega) hh0
             have hkb : (k : Int) ≤ 4 + (namesC path path.size : Int) * tK.high + 2 * tK.high + (wn : Int) := by
               obtain ⟨g1, _, _⟩ := HRK.out
               cases list with
               | true => rw [if_pos rfl, hkl] at hfb; omega
               | false => rw [if_neg (by decide)] at hfb; omega
             have hFe := hFD.er
             have hFv : F.ver = 5 := hFD.ver.trans HF.out.2.2.2.2.2
             have hFn := hFD.node
             have hFk : F.kids = kidsA L list a' e' := by rw [hFD.ans, kidsA_same HF.out.2.2.1 HF.out.2.1]
             have hCA := hR.ans
             rw [hFe, hFv, hFn] at hCA
             clear hNm
             have hw1 : IntKind.i64.wrap ((namesC path path.size : Int) * tK.high) = (namesC path path.size : Int) * tK.high := by rw [IntWalk.i64_in _ (by omega)]
             have hw2 : IntKind.i64.wrap (4 + (namesC path path.size : Int) * tK.high) = 4 + (namesC path path.size : Int) * tK.high := by rw [IntWalk.i64_in _ (by omega)]
             have hw3 : IntKind.i64.wrap (2 * tK.high) = 2 * tK.high := by rw [IntWalk.i64_in _ (by omega)]
             have hw4 : IntKind.i64.wrap (4 + (namesC path path.size : Int) * tK.high + 2 * tK.high) = 4 + (namesC path path.size : Int) * tK.high + 2 * tK.high := by rw [IntWalk.i64_in _ (by omega)]
             have hw5 : IntKind.i64.wrap (4 + (namesC path path.size : Int) * tK.high + 2 * tK.high + (wn : Int)) = 4 + (namesC path path.size : Int) * tK.high + 2 * tK.high + (wn : Int) := by rw [IntWalk.i64_in _ (by omega)]
             have q8 := (h13.pull 8).cell 8
             simp [nodC] at q8
             have t3 := (h13.pull 9).cell 3
             simp at t3
             have han := cli_answers h13 (by rw [hCA]; exact (by decide : (1 : Nat) ≤ 1000000))
             rw [hCA] at han
             have HFK := Lib.hid hFk
             clear h13 hR hFD hfb hh hh8 hN1 hN0 hNle hFe hFv hFn hFk hnl
             go_wp2_with fail
             refine han.mono ?_
             rintro z w14 ⟨va, rfl, h14, k14⟩
             obtain ⟨vg, vo, vc, hva⟩ := h14.tSome
             simp only [List.length_nil, Nat.zero_add] at hva
             subst hva
             have k14 := k13.trans k14
             clear han q8 t3 k13
             have h15 : Sat w14 (rowT fK (.slice ko kn kc) 73 3 F.kids :: findP fb F :: rowT fAn (.slice (some ⟨vg, vo, none⟩) 1 vc) 28 5 [(⟨e', 5, a', ko, kn, kc, none, 0, 0, false⟩ : RepD)] :: cliP c d s (.func (.func 48) #[] #[]) C :: emp :: deskP d D :: oldH W :: own s (.cells (stoC mk ms) 80 (0, 0)) :: mapK mk 2000 AK FK :: mapS ms 2000 AS FS :: own Q (.cells (nodC kq bq lh rh tK.high) 75 (0, 0)) :: own T (.cells #[.int .i64 e', .int .i64 5, .int .i64 a', .slice wo wn wc, .slice none 0 0] 28 (0, 0)) :: rowT fK (.slice wo wn wc) 73 3 (kidsA L list a' e') :: []) := (h14.pull 4).allE (l := [_, _])
             rw [HFK.out] at h15
             have h16 := ((h15).pull 12).pull 1
             clear h14 h15
             have hsm := ans_same (e := e') (ver := 5) (node := a') h16.drew (by rw [HWN.out]; omega)
             have hkb2 : (decide ((k : Int) ≤ 4 + (namesC path path.size : Int) * tK.high + 2 * tK.high + (wn : Int))) = true := by simpa using hkb
             have S0 := And.intro hkb2 (ansS (((h16).pull 12).pull 4))
             have HS0 := Lib.hid S0
             have SH := And.intro hkb2 (ansS (((h16.drew).pull 12).pull 4))
             clear S0
             go_upto_region 34 with (fail)
             go_region_held3 (fun w' => (decide ((k : Int) ≤ 4 + (namesC path path.size : Int) * tK.high + 2 * tK.high + (wn : Int)) = true) ∧ (w'.cell? ⟨vg, vo, none⟩ = some (.int .i64 e') ∧ w'.cell? ⟨vg, vo + 1, none⟩ = some (.int .i64 5) ∧ w'.cell? ⟨vg, vo + 2, none⟩ = some (.int .i64 a') ∧ w'.cell? ⟨vg, vo + 3, none⟩ = some (.slice ko kn kc) ∧ w'.cell? ⟨vg, vo + 4, none⟩ = some (.slice none 0 0)) ∧ (w'.cell? ⟨T, 0, none⟩ = some (.int .i64 e') ∧ w'.cell? ⟨T, 1, none⟩ = some (.int .i64 5) ∧ w'.cell? ⟨T, 2, none⟩ = some (.int .i64 a') ∧ w'.cell? ⟨T, 3, none⟩ = some (.slice wo wn wc) ∧ w'.cell? ⟨T, 4, none⟩ = some (.slice none 0 0))) (first | with_reducible exact HS0.out | with_reducible exact SH | with_reducible exact SA | fail) ((go_at_call 27; (with_reducible refine hsm.mono ?_); rintro z w17 ⟨rfl, h17, k17⟩; have SA := And.intro hkb2 (ansS (((h17).pull 12).pull 4))))
             all_goals
               go_wp2_with fail
               go_ret
               exact ⟨rfl, (h17.pull 7).below (k14.drew.trans k17)⟩
       | false =>
         have hrd := cli_rdy (r := zeroR) true (by rw [rd_ready HOKR.out, hdn]; rfl) h12 hrp hat
         clear h12
         go_wp2_with fail
         refine hrd.mono ?_
         rintro z w13 ⟨rfl, h13, k13⟩
         have k13 := k12.trans k13
         clear hrd k12
         have hstep := read_step (y := ()) note_bound HT.out HB.out HLT.out.1 HLT.out.2 ⟨Nn, rfl, HI.out⟩ trivial HXC.out.1 HXC.out.2 (D := D) (r := zeroR) HDV.out.2.1 (by rw [HDV.out.2.2.1]; decide) hD0 (by omega) HDV.out.2.2.2.2.2.2.1 HDV.out.2.2.2.2.2.2.2 (fun h => HDV.out.1 (by subst h; have : k = 2 := HRK.out; omega)) HOKR.out (by rintro fb F ao' m' cp' rfl; cases hdn) h13
         clear h13
         go_wp2_with fail
         refine hstep.mono ?_
         rintro z wB ⟨rfl, ⟨ph', C', D', y', hok', hnx, hB⟩, kB⟩
         have kB := k13.trans kB
         have hrk := rdk_next HB.out HLT.out.1 HLT.out.2 HOKR.out HRK.out hnx
         obtain ⟨d1, d2, d3, d4, d5, d6, d7, d8, d9, d10⟩ := rd_desk hnx
         have HOKR' := Lib.hid hok'
         have HRK' := Lib.hid hrk
         have HD' := Lib.hid (show (k + 1 ≤ 2 → verOf D' = v) ∧ D'.reps[0]? = some zeroR ∧ D'.pins.length = 3 ∧ D'.most = 4 ∧ D'.closed = false ∧ D'.msgs.length ≤ 4 ∧ -1000000000 ≤ D'.epoch ∧ D'.epoch ≤ 1000000000 from ⟨fun h => d1.trans (HDV.out.1 (by omega)), by rw [d2]; exact HDV.out.2.1, by rw [d7]; exact HDV.out.2.2.1, by rw [d4]; exact HDV.out.2.2.2.1, by rw [d6]; exact HDV.out.2.2.2.2.1, by rw [d5]; exact HDV.out.2.2.2.2.2.1, by rw [d3]; exact HDV.out.2.2.2.2.2.2.1, by rw [d3]; exact HDV.out.2.2.2.2.2.2.2⟩)
         have hD0' : 0 ≤ D'.acc := by omega
         have hD1' : D'.acc ≤ 11 + 10 * k := by omega
         clear hstep hok' hnx hrk d1 d2 d3 d4 d5 d6 d7 d8 d9 d10 k13 q1 q2 q3 q4 q5 hrp hat
         by_cases hk2 : k + 1 ≤ 2
         · have hk2' : ¬ (2 : Int) < (k : Int) + 1 := by omega
           have hD2 := HD'.out
           go_wp2_with fail
           go_roundw
           case rel => exact ⟨k + 1, ph', C', D', by go_num, HOKR', HRK', HD', hD0', by push_cast; omega, hB, kB⟩
           case measure => simp [intOf]; omega
         have hk2' : (2 : Int) < (k : Int) + 1 := by omega
         have hk2n : 2 < k + 1 := by omega
         clear hk2
         by_cases he0 : en = 0
         · have he0' : ¬ (0 : Int) < (en : Int) := by omega
           clear he0
           go_wp2_with fail
           go_roundw
           case rel => exact ⟨k + 1, ph', C', D', by go_num, HOKR', HRK', HD', hD0', by push_cast; omega, hB, kB⟩
           case measure => simp [intOf]; omega
         have he0' : (0 : Int) < (en : Int) := by omega
         have har := HER.out.old (hB.pull 4)
         have hlt : (k + 1) % en < en := Nat.mod_lt _ (by omega)
         obtain ⟨xe, hxe⟩ : ∃ xe, xs[(k + 1) % en]? = some xe := ⟨_, List.getElem?_eq_getElem (by rw [HER.out.len]; exact hlt)⟩
         obtain ⟨tb, toff, rfl⟩ := har.some hlt
         have x0 := har.cell (size := 1) (fun _ => rfl) 0 rfl hxe rfl
         have hxr := HXS.out xe (List.mem_of_getElem? hxe)
         have hx0 := hxr.1
         have hx1 := hxr.2
         have hmod : ((k : Int) + 1) % (en : Int) = (((k + 1) % en : Nat) : Int) := by push_cast; rfl
         have htm : Int.tmod ((k : Int) + 1) (en : Int) = (((k + 1) % en : Nat) : Int) := by rw [Int.tmod_eq_emod_of_nonneg (by omega)]; exact hmod
         generalize (k + 1) % en = jj at hlt x0 hmod htm
         have hj0 : (0 : Int) ≤ (jj : Int) := by omega
         have hj1 : (jj : Int) < (en : Int) := by omega
         have hne0 : ¬ (en : Int) = 0 := by omega
         have hwx : IntKind.i64.wrap xe = xe := by rw [IntWalk.i64_in _ (by omega)]
         have hw7 : IntKind.i64.wrap (((k : Int) + 1) * 7) = ((k : Int) + 1) * 7 := by rw [IntWalk.i64_in _ (by omega)]
         simp only [Nat.mul_one, Nat.add_zero] at x0
         have hsr := desk_setRoot (n := xe) (a := 0) (b := 0) (c := 0) (e := 0) (hB.pull 2) hD0' (by omega)
         clear har hxr hxe he0 hB
         go_wp2_with fail
         refine hsr.mono ?_
         rintro z wC ⟨rfl, hC, kC⟩
         have kC := kB.trans kC
         have hse := desk_setEpoch (n := ((k : Int) + 1) * 7) hC (by show 0 ≤ D'.acc + 1; omega) (by show D'.acc + 1 < 1000000000; omega)
         clear hsr hC kB x0
         go_wp2_with fail
         refine hse.mono ?_
         rintro z wD ⟨rfl, hD, kD⟩
         have kD := kC.trans kD
         have hsd := send_any (m := ⟨1, 0, 0, 0, 0, ⟨#[]⟩, none, 0, 0⟩) hD (by show 0 ≤ D'.acc + 1 + 1; omega) (by show D'.acc + 1 + 1 < 1000000000; omega) HD'.out.2.2.2.2.1 HD'.out.2.2.2.1 HD'.out.2.2.2.2.2.1
         unfold aggM at hsd
         clear hse hD kC
         go_wp2_with fail
         refine hsd.mono ?_
         rintro z wE ⟨rr, ms', rfl, hml, hE, kE⟩
         have kE := kD.trans kE
         have hsp := desk_setPin (i := 2) (n := (k : Int) + 1) hE (by show 0 ≤ D'.acc + 1 + 1 + 1; omega) (by show D'.acc + 1 + 1 + 1 < 1000000000; omega) (by show 2 < D'.pins.length; rw [HD'.out.2.2.1]; decide)
         clear hsd hE kD
         go_wp2_with fail
         refine hsp.mono ?_
         rintro z wF ⟨rfl, hF, kF⟩
         have kF := kE.trans kF
         clear hsp kE
         go_wp2_with fail
         go_roundw
         case rel =>
           refine ⟨k + 1, ph', C', _, by go_num, HOKR', HRK', ?_, ?_, ?_, ((hF).pull 2).pull 2, kF⟩
           · exact Lib.hid ⟨fun h => by omega, HD'.out.2.1, by show (List.set D'.pins 2 _).length = 3; rw [List.length_set]; exact HD'.out.2.2.1, HD'.out.2.2.2.1, HD'.out.2.2.2.2.1, hml, by show -1000000000 ≤ ((k : Int) + 1) * 7; omega, by show ((k : Int) + 1) * 7 ≤ 1000000000; omega⟩
           · show 0 ≤ D'.acc + 1 + 1 + 1 + 1
             omega
           · show D'.acc + 1 + 1 + 1 + 1 ≤ 10 + 10 * ((k + 1 : Nat) : Int)
             push_cast
             omega
         case measure => simp [intOf]; omega
end Go.Proofs.YtddglbjhhnipgaaGreatDoor

import Derived.Test.YtddglbjhhnipgaaGreatDoorHM
import Derived.Test.YtddglbjhhnipgaaGreatDoorHK
import Derived.Test.YtddglbjhhnipgaaGreatDoorJA
import Derived.Test.YtddglbjhhnipgaaGreatDoorHL
import Derived.Test.YtddglbjhhnipgaaGreatDoorIT
import Derived.Deep.RegionHeld3
namespace Go.Proofs.YtddglbjhhnipgaaGreatDoor
open Go Go.RowKit
set_option linter.unusedVariables false
set_option linter.unusedSimpArgs false
set_option maxRecDepth 100000
set_option maxHeartbeats 8000000
theorem wf_u16 {n : Int} (h : (Lit.int .u16 n).wf = true) : 0 ≤ n ∧ n < 65536 := by
 have h0 : IntKind.u16.min = 0 := rfl
 have h1 : IntKind.u16.max = 65535 := rfl
 simp only [Lit.wf, h0, h1, Bool.and_eq_true, decide_eq_true_eq] at h
 omega
theorem readS {w : World} {l : List HProp} {vg vo vc T lb : Nat} {r : RepD} {c0 c1 c2 c3 c4 lv : Value} {ta tt tl : TypeId} (h : Sat w (rowT fAn (.slice (some ⟨vg, vo, none⟩) 1 vc) ta 5 [r] :: own T (.cells #[c0, c1, c2, c3, c4] tt (0, 0)) :: own lb (.cells #[lv] tl (0, 0)) :: l)) :
   (w.cell? ⟨vg, vo, none⟩ = some (.int .i64 r.e) ∧ w.cell? ⟨vg, vo + 1, none⟩ = some (.int .i64 r.version) ∧ w.cell? ⟨vg, vo + 2, none⟩ = some (.int .i64 r.node) ∧ w.cell? ⟨vg, vo + 3, none⟩ = some (.slice r.kao r.kn r.kc) ∧ w.cell? ⟨vg, vo + 4, none⟩ = some (.slice r.dao r.dn r.dc)) ∧
   (w.cell? ⟨T, 0, none⟩ = some c0 ∧ w.cell? ⟨T, 1, none⟩ = some c1 ∧ w.cell? ⟨T, 2, none⟩ = some c2 ∧ w.cell? ⟨T, 3, none⟩ = some c3 ∧ w.cell? ⟨T, 4, none⟩ = some c4) ∧ w.cell? ⟨lb, 0, none⟩ = some lv := by
 have x0 := h.tCell len_fAn 0 0 rfl rfl
 have x1 := h.tCell len_fAn 0 1 rfl rfl
 have x2 := h.tCell len_fAn 0 2 rfl rfl
 have x3 := h.tCell len_fAn 0 3 rfl rfl
 have x4 := h.tCell len_fAn 0 4 rfl rfl
 simp only [Nat.zero_mul, Nat.add_zero, Nat.zero_add] at x0 x1 x2 x3 x4
 exact ⟨⟨x0, x1, x2, x3, x4⟩, ⟨(h.pull 1).cell 0, (h.pull 1).cell 1, (h.pull 1).cell 2, (h.pull 1).cell 3, (h.pull 1).cell 4⟩, (h.pull 2).cell 0⟩
theorem clientReads_walk (ao : Option Addr) (n cap : Nat) (ts : List TinyD) (num ep : Int) (list : Bool) (path : ByteArray) (W : World) (hr : ArgRow W fT ao n cap ts) (hok : ∀ t ∈ ts, TinyOk t) (hep0 : 0 ≤ ep) (hep1 : ep < 65536) (hT : Lib.Utf8Tabs (validS_ren.g 3) (validS_ren.g 4) W) :
   LawCalls Tryz.prog 12 #[.slice ao n cap, .int .i64 num, .int .u16 ep, .bool list, .string path] W := by
 have H0 := Sat.start W
 have hle := hr.le
 have hsm := hr.small
 unfold maxLen at hsm
 have HL := Lib.hid hr.len
 have HT := Lib.hid hT
 have HR := Lib.hid hr
 have HOK := Lib.hid hok
 clear hT hr hok
 go_enter Tryz.func12, Tryz.ntmps12
 go_wp2_with fail
 refine (client_awake H0).mono ?_
 rintro e w1 ⟨rfl, h1, k1⟩
 clear H0
 by_cases hmost : 12 < n
 · have hmost' : (12 : Int) < (n : Int) := by omega
   clear hmost
   go_wp2_with fail
   go_ret
   exact ⟨rfl, h1.below k1⟩
 have hmost' : ¬ (12 : Int) < (n : Int) := by omega
 by_cases hlong : 450 < path.size
 · have hlong' : (450 : Int) < (path.size : Int) := by omega
   clear hlong
   go_wp2_with fail
   go_ret
   exact ⟨rfl, h1.below k1⟩
 have hlong' : ¬ (450 : Int) < (path.size : Int) := by omega
 have hgr := ver_grownC (num := num) (queue := 4) (by decide) (by decide) h1 HR.out HOK.out (by omega)
 clear h1
 go_wp2_with fail
 refine hgr.mono ?_
 rintro e w2 hQ
 clear hgr
 unfold GrownC at hQ
 obtain ⟨d, s, mk, ms, L, v, vl, AK, FK, AS, FS, GK, GS, tK, tS, ks, rfl, hE, hE2, hvn, hV, r1, r2, r3, r4, h2, k2⟩ := hQ
 have k2 := k1.trans k2
 have hg := grow_grown (ts.map ofT)
 generalize (growT (ts.map ofT)).1 = f at hE hE2 hg
 have h0 : f 0 = none := hg.low (by decide)
 have hpos : ∀ y ∈ ks, 0 ≤ y.node := fun y hy => by have := (hg.dom _ _ (hE2.mem y hy)).1; omega
 have hks8 : ks.length ≤ 8 := by
   have := nodup_le 8 256 (ks.map KidD.node) hE2.nodup (fun x hx => by
     obtain ⟨y, hy, rfl⟩ := List.mem_map.1 hx
     obtain ⟨h1, o, ho, h2⟩ := hg.dom y.node _ (hE2.mem y hy)
     obtain ⟨t, ht, rfl⟩ := List.mem_map.1 ho
     have h3 : 256 + t.node % 8 = y.node := h2
     omega)
   simpa using this
 have hL8 : L.length ≤ 8 := by rw [(enumk_perm hE hE2).length_eq]; exact hks8
 have hB := base_of hV hE2 hpos
 have hT8 : tK.size ≤ 8 := Nat.le_trans hV.zk hks8
 obtain ⟨a, er, hA⟩ := findA_ex hE path
 obtain ⟨Nn, hI, hN⟩ := step_new list hB hA h0
 have HNN := Lib.hid hN
 have HTR := Lib.hid hV.k.rep
 have HVK := Lib.hid (And.intro hV.ks hV.kg)
 have HB := Lib.hid hB
 have HLT := Lib.hid (And.intro hks8 hT8)
 have HI := Lib.hid hI
 have HF := Lib.hid (And.intro hA (And.intro hE (And.intro hE2 (And.intro hL8 (And.intro hks8 hvn)))))
 obtain ⟨lao, lcap, rfl, _⟩ := (h2.pull 4).poolArg (v := vl) (ks := L) (by simp)
 obtain ⟨D0, hD0⟩ : ∃ D : DeskD, D = { tick (newD 3 4) with n := v.n, ks := v.ks, kg := v.kg, ss := v.ss, sg := v.sg } := ⟨_, rfl⟩
 rw [← hD0] at h2
 have HD0 := Lib.hid (show verOf D0 = v ∧ D0.pins = [0, 0, 0] ∧ D0.reps = [zeroR, zeroR, zeroR] ∧ D0.acc = 1 ∧ D0.most = 4 ∧ D0.msgs = [] ∧ D0.closed = false ∧ D0.epoch = 0 by subst hD0; exact ⟨rfl, rfl, rfl, rfl, rfl, rfl, rfl, rfl⟩)
 clear hE hE2 hg h0 hpos hks8 hL8 hB hT8 hA hI hN hV r1 r2 r3 r4 k1 hvn hD0
 have hwe : IntKind.i64.wrap ep = ep := by rw [IntWalk.i64_in _ (by omega)]
 have hwe1 : IntKind.i64.wrap (ep + 1) = ep + 1 := by rw [IntWalk.i64_in _ (by omega)]
 have hse := desk_setEpoch (n := ep) h2 (by rw [HD0.out.2.2.2.1]; decide) (by rw [HD0.out.2.2.2.1]; decide)
 clear h2
 go_wp2_with fail
 refine hse.mono ?_
 rintro z w2b ⟨rfl, h2, k2b⟩
 have k2 := k2.trans k2b
 obtain ⟨D1, hD1⟩ : ∃ D1 : DeskD, D1 = { tick D0 with epoch := ep } := ⟨_, rfl⟩
 rw [← hD1] at h2
 have HD1 := Lib.hid (show verOf D1 = v ∧ D1.pins = [0, 0, 0] ∧ D1.reps = [zeroR, zeroR, zeroR] ∧ D1.acc = 2 ∧ D1.epoch = ep by subst hD1; exact ⟨HD0.out.1, HD0.out.2.1, HD0.out.2.2.1, by show D0.acc + 1 = 2; rw [HD0.out.2.2.2.1]; rfl, rfl⟩)
 clear hse k2b hD1 HD0
 have h3 := h2.alloc (.cells #[.int .i64 3, .int .i64 9, .int .i64 0, .string path, .slice none 0 0] 24)
 have k3 := k2.alloc (.cells #[.int .i64 3, .int .i64 9, .int .i64 0, .string path, .slice none 0 0] 24)
 clear h2 k2
 obtain ⟨kd, hkd⟩ : ∃ kd : Int, kd = if list = true then 4 else 3 := ⟨_, rfl⟩
 have HKD := Lib.hid hkd
 go_upto_if 53 with (fail)
 generalize World.alloc _ _ = w3 at h3 k3 ⊢
 generalize w2b.heap.size = X at h3 ⊢
 have x0 := (h3).cell 0
 have xf0 := (h3).free 0
 simp at x0
 have hxl := h3.lt
 go_cut [15] from 54 to 54 (fun xv wx => xv = .pointer (some ⟨X, 0, none⟩) ∧ Sat wx (own X (.cells #[.int .i64 kd, .int .i64 9, .int .i64 0, .string path, .slice none 0 0] 24 (0, 0)) :: deskP d D1 :: own s (.cells (stoC mk ms) 80 (0, 0)) :: mapK mk 2000 AK FK :: mapS ms 2000 AS FS :: poolP fK [(.slice lao L.length lcap, L)] :: oldH W :: []) ∧ Kp W wx)
 case first =>
   cases list with
   | true =>
     have h4 := h3.set 0 (.int .i64 4)
     have k4 := k3.setCell ⟨X, 0, none⟩ (.int .i64 4)
     go_wp2_with fail
     go_meet
     case rel => exact ⟨rfl, by rw [hkd]; exact h4, k4⟩
   | false =>
     go_wp2_with fail
     go_meet
     case rel => exact ⟨rfl, by rw [hkd]; exact h3, k3⟩
 case rest =>
   clear h3 k3 x0 xf0 hxl hkd
   obtain ⟨rfl, h4, k4⟩ := hcut
   have h4b := (h4.tNil fEv 41 4).alloc (.cells #[.slice none 0 0] 37)
   have k4b := k4.alloc (.cells #[.slice none 0 0] 37)
   clear h4 k4
   go_upto_region 12 with (fail)
   generalize World.alloc _ _ = w4 at h4b k4b ⊢
   generalize wc.heap.size = lb at h4b ⊢
   have h4 := logP_I h4b
   have k4 := k4b
   clear h4b k4b
   have x0 := (h4.pull 1).cell 0
   have x1 := (h4.pull 1).cell 1
   have x2 := (h4.pull 1).cell 2
   have x3 := (h4.pull 1).cell 3
   have x4 := (h4.pull 1).cell 4
   simp at x0 x1 x2 x3 x4
   have hxl := (h4.pull 1).lt
   have h5 := rowCa1 ⟨kd, 9, 0, path, none, 0, 0⟩ h4
   have k5 := k4.alloc (.cells #[.int .i64 kd, .int .i64 9, .int .i64 0, .string path, .slice none 0 0] 24)
   have hmf : ∀ (fn : Fn) (first cap : Array Value) (w : World), (Instr.makeFunc fn first cap).run Tryz.prog w = .ok (.func fn first cap) w := fun _ _ _ _ => rfl
   have hnc := cli_new (d := d) (s := s) (i := 1) (k := 56) (cap := #[.pointer (some ⟨lb, 0, none⟩)]) h5 (by simp)
   clear h4 k4 h5
   go_wp2_with fail
   refine hnc.mono ?_
   rintro e w6 ⟨c, rfl, h6, k6⟩
   have k6 := k5.trans k6
   obtain ⟨xc, hxc⟩ : ∃ xc : CallD, xc = ⟨kd, 9, 0, path, none, 0, 0⟩ := ⟨_, rfl⟩
   have HXC := Lib.hid (show xc.kind = (if list = true then 4 else 3) ∧ xc.text = path by rw [hxc]; exact ⟨HKD.out, rfl⟩)
   rw [← hxc] at h6
   clear hxc
   clear hnc k5 x0 x1 x2 x3 x4 hxl hmf
   have hrt := desk_root ((((((h6).pull 1).tail).pull 2).tail).pull 2) (by rw [HD1.out.2.2.2.1]; decide) (by rw [HD1.out.2.2.2.1]; decide)
   have hv0 := HD1.out.1
   have e1 : D1.n = v.n := by rw [← hv0]; rfl
   have e2 : D1.ks = v.ks := by rw [← hv0]; rfl
   have e3 : D1.kg = v.kg := by rw [← hv0]; rfl
   have e4 : D1.ss = v.ss := by rw [← hv0]; rfl
   have e5 : D1.sg = v.sg := by rw [← hv0]; rfl
   rw [e1, e2, e3, e4, e5] at hrt
   clear h6 hv0 e1 e2 e3 e4 e5
   go_wp2_with fail
   refine hrt.mono ?_
   rintro z w8 ⟨rfl, h8, k8⟩
   have h9 := h8.alloc (.cells #[.int .i64 v.n, .int .i64 v.ks, .int .i64 v.kg, .int .i64 v.ss, .int .i64 v.sg] 58)
   have k9 := (k6.trans k8).alloc (.cells #[.int .i64 v.n, .int .i64 v.ks, .int .i64 v.kg, .int .i64 v.ss, .int .i64 v.sg] 58)
   clear hrt h8 k8 k6
   go_upto_region 16 with (fail)
   generalize World.alloc _ _ = w9 at h9 k9 ⊢
   generalize w8.heap.size = R at h9 ⊢
   have h10 : Sat w9 (cliP c d s (.func (.func 56) #[] #[.pointer (some ⟨lb, 0, none⟩)]) (newC 1 [xc]) :: logP lb (rdLog 1 num .begin) :: deskP d (tick D1) :: rdPiece .begin :: oldH W :: own s (.cells (stoC mk ms) 80 (0, 0)) :: mapK mk 2000 AK FK :: mapS ms 2000 AS FS :: poolP fK [(.slice lao L.length lcap, L)] :: own R (.cells #[.int .i64 v.n, .int .i64 v.ks, .int .i64 v.kg, .int .i64 v.ss, .int .i64 v.sg] 58 (0, 0)) :: []) := (((((((((h9.emp).pull 8).pull 8).pull 8).pull 8).pull 9).pull 5).pull 7).pull 9).pull 9
   clear h9
   go_wp2_with fail
   go_loopw [19] (fun kv wr => ∃ (k : Nat) (ph : RdPh) (C : CliD) (D : DeskD), kv = .int .i64 k ∧ Hid (RdOk f ks AK tK list v Nn a er 1 xc ph C) ∧ Hid (RdK k ph) ∧ Hid (PinI 1 ep ph C D) ∧ Hid (verOf D = v ∧ D.reps[1]? = some zeroR ∧ D.pins.length = 3 ∧ D.epoch = ep) ∧ 0 ≤ D.acc ∧ D.acc ≤ 10 + 5 * k ∧ Sat wr (cliP c d s (.func (.func 56) #[] #[.pointer (some ⟨lb, 0, none⟩)]) C :: logP lb (rdLog 1 num ph) :: deskP d D :: rdPiece ph :: oldH W :: own s (.cells (stoC mk ms) 80 (0, 0)) :: mapK mk 2000 AK FK :: mapS ms 2000 AS FS :: poolP fK [(.slice lao L.length lcap, L)] :: own R (.cells #[.int .i64 v.n, .int .i64 v.ks, .int .i64 v.kg, .int .i64 v.ss, .int .i64 v.sg] 58 (0, 0)) :: []) ∧ Kp W wr) (fun kv _ => 300 - (intOf kv).toNat)
   case atStart => exact ⟨0, .begin, newC 1 [xc], tick D1, rfl, Lib.hid (rd_begin 1 xc), Lib.hid rfl, Lib.hid ⟨by show D1.pins[1]? = _; rw [HD1.out.2.1]; rfl, fun h => by cases h⟩, Lib.hid ⟨HD1.out.1, by show D1.reps[1]? = _; rw [HD1.out.2.2.1]; rfl, by show D1.pins.length = 3; rw [HD1.out.2.1]; rfl, HD1.out.2.2.2.2⟩, by show 0 ≤ D1.acc + 1; rw [HD1.out.2.2.2.1]; decide, by show D1.acc + 1 ≤ _; rw [HD1.out.2.2.2.1]; decide, h10, k9⟩
   case round =>
     clear h10 k9 HD1
     obtain ⟨k, ph, C, D, rfl, HOKR, HRK, HPI, HDV, hD0, hD1, h8, k8⟩ := hrel
     have hk85 := HRK.out.le
     have hk300 : (k : Int) < 300 := by omega
     have hk0 : (0 : Int) ≤ (k : Int) := by omega
     have hwk : IntKind.i64.wrap ((k : Int) + 1) = (k : Int) + 1 := by rw [IntWalk.i64_in _ (by omega)]
     obtain ⟨q1, q2, q3, q4, q5⟩ := HOKR.out.rdc
     have hrp : D.reps[C.i]? = some zeroR := by rw [q2]; exact HDV.out.2.1
     have hat : C.at' ≤ 1000000 := by rw [q3]; split <;> decide
     cases hdn : isDone ph with
     | true =>
       have hrd := cli_rdy (r := zeroR) false (by rw [rd_ready HOKR.out, hdn]; rfl) h8 hrp hat
       have hrd2 := fun (W' : World) (l' : List HProp) (hW' : Sat W' (cliP c d s (.func (.func 56) #[] #[.pointer (some ⟨lb, 0, none⟩)]) C :: logP lb (rdLog 1 num ph) :: deskP d D :: l')) => cli_rdy (r := zeroR) false (by rw [rd_ready HOKR.out, hdn]; rfl) hW' hrp hat
       have HR2 := Lib.hid hrd2
       obtain ⟨fb, F, ko, kn, kc, rfl⟩ := isDone_ex hdn
       clear h8 hdn q1 q2 q3 q4 q5 hrd2
       go_wp2_with fail
       refine hrd.mono ?_
       rintro z w9 ⟨rfl, h9, k9⟩
       have k9 := k8.trans k9
       have hra := ref_answer (num := num) (list := list) (path := path) (h9.pull 8) HF.out.2.1 (Nat.le_trans HF.out.2.2.2.1 (by decide))
       clear hrd h9 k8
       go_wp2_with fail
       refine hra.mono ?_
       rintro z wA ⟨a', e', v', hA', rfl, hA, kA⟩
       clear hra
       obtain ⟨rfl, rfl⟩ := hA'.uniq HF.out.1
       have kA := k9.trans kA
       obtain ⟨wo, wc', rfl⟩ := hA.tLen
       have hwz : (kidsA L list a' e').length ≤ 8 := Nat.le_trans (kidsA_len _ _ _ _) HF.out.2.2.2.1
       generalize hwn : (kidsA L list a' e').length = wn at hA hwz ⊢
       have HWN := Lib.hid hwn
       have hB := hA.alloc (.cells #[.int .i64 e', .int .i64 num, .int .i64 a', .slice wo wn wc', .slice none 0 0] 28)
       have kB := kA.alloc (.cells #[.int .i64 e', .int .i64 num, .int .i64 a', .slice wo wn wc', .slice none 0 0] 28)
       clear hA k9 kA hwn hA'
       go_upto_region 35 with (fail)
       generalize World.alloc _ _ = wB at hB kB ⊢
       generalize wA.heap.size = T at hB ⊢
       obtain ⟨hR, hFD⟩ := HOKR.out
       have hFe := hFD.er
       have hFv : F.ver = num := hFD.ver.trans HF.out.2.2.2.2.2
       have hFn := hFD.node
       have hFk : F.kids = kidsA L list a' e' := by rw [hFD.ans, kidsA_same HF.out.2.2.1 HF.out.2.1]
       have hCA := hR.ans
       rw [hFe, hFv, hFn] at hCA
       have HFK := Lib.hid (And.intro hFk hFv)
       have han := cli_answers ((hB).pull 2) (by rw [hCA]; exact (by decide : (1 : Nat) ≤ 1000000))
       rw [hCA] at han
       clear hB hR hFD hFe hFv hFn hFk
       go_wp2_with fail
       refine han.mono ?_
       rintro z w14 ⟨va, rfl, h14, k14⟩
       obtain ⟨vg, vo, vc, hva⟩ := h14.tSome
       simp only [List.length_nil, Nat.zero_add] at hva
       subst hva
       have k14 := kB.trans k14
       clear han kB
       have hrd := HR2.out _ _ ((((h14).pull 5).pull 5).pull 3)
       clear h14
       go_wp2_with fail
       refine hrd.mono ?_
       rintro z w15 ⟨rfl, h15, k15⟩
       have k15 := k14.trans k15
       clear hrd k14
       have h16 : Sat w15 (rowT fK (.slice ko kn kc) 73 3 F.kids :: findP fb F :: cliP c d s (.func (.func 56) #[] #[.pointer (some ⟨lb, 0, none⟩)]) C :: logP lb (rdLog 1 num (.done fb F ko kn kc)) :: deskP d D :: rowT fAn (.slice (some ⟨vg, vo, none⟩) 1 vc) 28 5 [(⟨e', num, a', ko, kn, kc, none, 0, 0, false⟩ : RepD)] :: own T (.cells #[.int .i64 e', .int .i64 num, .int .i64 a', .slice wo wn wc', .slice none 0 0] 28 (0, 0)) :: rowT fK (.slice wo wn wc') 73 3 (kidsA L list a' e') :: oldH W :: own s (.cells (stoC mk ms) 80 (0, 0)) :: mapK mk 2000 AK FK :: mapS ms 2000 AS FS :: own R (.cells #[.int .i64 v.n, .int .i64 v.ks, .int .i64 v.kg, .int .i64 v.ss, .int .i64 v.sg] 58 (0, 0)) :: []) := (h15.pull 6).allE (l := [_, _])
       rw [HFK.out.1] at h16
       have hlg := (h16).pull 3
       obtain ⟨lv, h17⟩ := logP_E hlg
       obtain ⟨lo, lc, rfl⟩ := (h17.pull 1).tLen
       clear h15 h16 hlg
       have h18 : Sat w15 (own lb (.cells #[.slice lo 3 lc] 37 (0, 0)) :: rowT fEv (.slice lo 3 lc) 41 4 [⟨0, 1, 0, 0⟩, ⟨8, 1, 0, num⟩, ⟨9, 1, 0, num⟩] :: rowT fK (.slice ko kn kc) 73 3 (kidsA L list a' e') :: findP fb F :: cliP c d s (.func (.func 56) #[] #[.pointer (some ⟨lb, 0, none⟩)]) C :: deskP d D :: rowT fAn (.slice (some ⟨vg, vo, none⟩) 1 vc) 28 5 [(⟨e', num, a', ko, kn, kc, none, 0, 0, false⟩ : RepD)] :: own T (.cells #[.int .i64 e', .int .i64 num, .int .i64 a', .slice wo wn wc', .slice none 0 0] 28 (0, 0)) :: rowT fK (.slice wo wn wc') 73 3 (kidsA L list a' e') :: oldH W :: own s (.cells (stoC mk ms) 80 (0, 0)) :: mapK mk 2000 AK FK :: mapS ms 2000 AS FS :: own R (.cells #[.int .i64 v.n, .int .i64 v.ks, .int .i64 v.kg, .int .i64 v.ss, .int .i64 v.sg] 58 (0, 0)) :: []) := by
         have q : rdLog 1 num (.done fb F ko kn kc) = [⟨0, 1, 0, 0⟩, ⟨8, 1, 0, num⟩, ⟨9, 1, 0, num⟩] := by show [_, _, (⟨9, 1, 0, F.ver⟩ : EvD)] = _; rw [HFK.out.2]; rfl
         rw [q] at h17
         exact h17
       clear h17
       have h19 := ((h18).pull 8).pull 3
       clear h18
       have hsm := ans_same (e := e') (ver := num) (node := a') h19.drew (by rw [HWN.out]; omega)
       have hev : ∀ (W' : World) (l' : List HProp), Sat W' (rowT fEv (.slice lo 3 lc) 41 4 [⟨0, 1, 0, 0⟩, ⟨8, 1, 0, num⟩, ⟨9, 1, 0, num⟩] :: l') → Calls Tryz.prog 22 #[.slice lo 3 lc, .slice (some ⟨W'.heap.size, 0, none⟩) 3 3] (W'.alloc (.cells #[.int .i64 0, .int .i64 1, .int .i64 0, .int .i64 0, .int .i64 8, .int .i64 1, .int .i64 0, .int .i64 num, .int .i64 9, .int .i64 1, .int .i64 0, .int .i64 num] 41)) fun e w' => e = .returned (.bool true) ∧ Sat w' (rowT fEv (.slice lo 3 lc) 41 4 [⟨0, 1, 0, 0⟩, ⟨8, 1, 0, num⟩, ⟨9, 1, 0, num⟩] :: rowT fEv (.slice (some ⟨W'.heap.size, 0, none⟩) 3 3) 41 4 [⟨0, 1, 0, 0⟩, ⟨8, 1, 0, num⟩, ⟨9, 1, 0, num⟩] :: l') ∧ Kp W' w' := fun W' l' h => (events_same ((rowEv3 ⟨0, 1, 0, 0⟩ ⟨8, 1, 0, num⟩ ⟨9, 1, 0, num⟩ h).swap) (by show (3 : Nat) ≤ 1000; decide)).mono fun e w' ⟨x1, x2, x3⟩ => ⟨x1, x2, ((Kp.refl W').alloc _).trans x3⟩
       have HEV := Lib.hid hev
       clear hev
       have S0 := readS ((((h19).pull 2).pull 8).pull 8)
       have HS0 := Lib.hid S0
       have SH := readS ((((h19.drew).pull 2).pull 8).pull 8)
       clear S0
       go_upto_region 38 with (fail)
       go_region_held3 (fun w' => (w'.cell? ⟨vg, vo, none⟩ = some (.int .i64 e') ∧ w'.cell? ⟨vg, vo + 1, none⟩ = some (.int .i64 num) ∧ w'.cell? ⟨vg, vo + 2, none⟩ = some (.int .i64 a') ∧ w'.cell? ⟨vg, vo + 3, none⟩ = some (.slice ko kn kc) ∧ w'.cell? ⟨vg, vo + 4, none⟩ = some (.slice none 0 0)) ∧ (w'.cell? ⟨T, 0, none⟩ = some (.int .i64 e') ∧ w'.cell? ⟨T, 1, none⟩ = some (.int .i64 num) ∧ w'.cell? ⟨T, 2, none⟩ = some (.int .i64 a') ∧ w'.cell? ⟨T, 3, none⟩ = some (.slice wo wn wc') ∧ w'.cell? ⟨T, 4, none⟩ = some (.slice none 0 0)) ∧ w'.cell? ⟨lb, 0, none⟩ = some (.slice lo 3 lc)) (first | with_reducible exact HS0.out | with_reducible exact SH | with_reducible exact SA | with_reducible exact SA1 _ _ | with_reducible exact SE | fail) ((first
         | (go_at_call 27; (with_reducible refine hsm.mono ?_); rintro z w20 ⟨rfl, h20, k20⟩; have SA := readS ((((h20).pull 2).pull 8).pull 8); have SA1 := fun (c1 : Array Value) (q1 : TypeId) => readS (((((h20.alloc (.cells c1 q1))).pull 3).pull 9).pull 9); have hy := (h20).pull 3; have zev := HEV.out _ _ hy; clear hy)
         | (go_at_call 22; (with_reducible refine zev.mono ?_); rintro z w21 ⟨rfl, h21, k21⟩; have SE := readS ((((h21).pull 4).pull 9).pull 9))))
       all_goals
         go_wp2_with fail
         go_ret
         exact ⟨rfl, (h21.pull 10).below ((k15.drew.trans k20).trans k21)⟩
     | false =>
       have hrd := cli_rdy (r := zeroR) true (by rw [rd_ready HOKR.out, hdn]; rfl) h8 hrp hat
       clear h8
       go_wp2_with fail
       refine hrd.mono ?_
       rintro z w9 ⟨rfl, h9, k9⟩
       have k9 := k8.trans k9
       have hac := desk_accesses (h9.pull 2)
       clear hrd k8
       go_wp2_with fail
       refine hac.mono ?_
       rintro z w9' ⟨rfl, rfl⟩
       clear hac
       have hstep := read_step (y := rdLog 1 num ph) (note_reads lb) HT.out HB.out HLT.out.1 HLT.out.2 ⟨Nn, rfl, HI.out⟩ (by have := rdLog_len 1 num ph; show _ ≤ 100000; omega) HXC.out.1 HXC.out.2 (D := D) (r := zeroR) HDV.out.2.1 (by rw [HDV.out.2.2.1]; decide) hD0 (by omega) (by rw [HDV.out.2.2.2]; omega) (by rw [HDV.out.2.2.2]; omega) (fun _ => HDV.out.1) HOKR.out (by rintro fb F ao' m' cp' rfl; cases hdn) h9
       clear h9
       go_wp2_with fail
       refine hstep.mono ?_
       rintro z wB ⟨rfl, ⟨ph', C', D', y', hok', hnx, hB⟩, kB⟩
       have kB := k9.trans kB
       have hpi := PinI.next (first' := ep) HPI.out (fun _ => HDV.out.2.2.2.symm) (fun _ => rfl) hnx
       have hrk := rdk_next HB.out HLT.out.1 HLT.out.2 HOKR.out HRK.out hnx
       have hlg := rd_log (n := num) (by have q := congrArg VerD.n HDV.out.1; rw [HF.out.2.2.2.2.2] at q; exact q) hnx
       rw [hlg] at hB
       obtain ⟨d1, d2, d3, d4, d5, d6, d7, d8, d9, d10⟩ := rd_desk hnx
       have hcs := rd_acts HRK.out hok' hnx ep
       have hpp := hpi.pin
       have HOKR' := Lib.hid hok'
       have HRK' := Lib.hid hrk
       have HPI' := Lib.hid hpi
       have HDV' := Lib.hid (show verOf (tick D') = v ∧ (tick D').reps[1]? = some zeroR ∧ (tick D').pins.length = 3 ∧ (tick D').epoch = ep from ⟨d1.trans HDV.out.1, by show D'.reps[1]? = _; rw [d2]; exact HDV.out.2.1, by show D'.pins.length = 3; rw [d7]; exact HDV.out.2.2.1, by show D'.epoch = ep; rw [d3]; exact HDV.out.2.2.2⟩)
       have hD0' : 0 ≤ D'.acc := by omega
       have hD1' : D'.acc ≤ 11 + 5 * k := by omega
       have hwd : IntKind.i64.wrap (D'.acc - D.acc) = D'.acc - D.acc := by rw [IntWalk.i64_in _ (by omega)]
       have q5' := hok'.rdc.2.2.2.2
       generalize pinOf ep ph' = p at hcs hpp
       have hac := desk_accesses (hB.pull 2)
       have hpn := desk_pin (hB.pull 2) hD0' (by omega) hpp
       clear hstep hok' hnx hpi hrk d1 d2 d3 d4 d5 d6 d7 d8 d9 d10 k9 hpp q1 q2 q3 q4 q5 hrp hat hlg
       go_wp2_with fail
       refine hac.mono ?_
       rintro z wB' ⟨rfl, rfl⟩
       clear hac
       go_wp2_with fail
       refine hpn.mono ?_
       rintro z wC ⟨rfl, hC, kC⟩
       have kC := kB.trans kC
       have hlo := cli_loaded (hC.pull 1)
       unfold aggV at hlo
       clear hpn hB kB
       go_wp2_with fail
       refine hlo.mono ?_
       rintro z wD ⟨rfl, hD, kD⟩
       have hE := hD.alloc (.cells #[.int .i64 C'.v.n, .int .i64 C'.v.ks, .int .i64 C'.v.kg, .int .i64 C'.v.ss, .int .i64 C'.v.sg] 58)
       have kE := (kC.trans kD).alloc (.cells #[.int .i64 C'.v.n, .int .i64 C'.v.ks, .int .i64 C'.v.kg, .int .i64 C'.v.ss, .int .i64 C'.v.sg] 58)
       clear hlo hC kC hD kD
       go_upto_region 24 with (fail)
       generalize World.alloc _ _ = wE at hE kE ⊢
       generalize wD.heap.size = U at hE ⊢
       rcases hcs with ⟨hk, hacc, hp, hrr⟩ | ⟨hk, hacc, hp, hrr⟩ | hcs
       · have hm1 : D'.acc - D.acc = 1 := by omega
         clear hacc hwd
         have hkz : (k : Int) = 0 := by omega
         subst hp
         rw [hrr]
         go_wp2_with fail
         go_roundw
         case rel => exact ⟨k + 1, ph', C', tick D', by go_num, HOKR', HRK', Lib.hid ⟨HPI'.out.pin, HPI'.out.ep⟩, HDV', by show 0 ≤ D'.acc + 1; omega, by show D'.acc + 1 ≤ 10 + 5 * ((k + 1 : Nat) : Int); push_cast; omega, (((hE).tail).pull 2).pull 1, kE⟩
         case measure => simp [intOf]; omega
       · have hm1 : D'.acc - D.acc = 1 := by omega
         clear hacc hwd
         have hkz : (k : Int) = 1 := by omega
         subst hp
         rw [hrr]
         go_wp2_with fail
         go_roundw
         case rel => exact ⟨k + 1, ph', C', tick D', by go_num, HOKR', HRK', Lib.hid ⟨HPI'.out.pin, HPI'.out.ep⟩, HDV', by show 0 ≤ D'.acc + 1; omega, by show D'.acc + 1 ≤ 10 + 5 * ((k + 1 : Nat) : Int); push_cast; omega, (((hE).tail).pull 2).pull 1, kE⟩
         case measure => simp [intOf]; omega
       have hk2 : 2 ≤ k := by omega
       have hkz0 : ¬ (k : Int) = 0 := by omega
       have hkz1 : ¬ (k : Int) = 1 := by omega
       have han := cli_answers (hE.pull 1) (by rw [q5']; split <;> decide)
       have u0 := (hE).cell 0
       have u1 := (hE).cell 1
       have u2 := (hE).cell 2
       have u3 := (hE).cell 3
       have u4 := (hE).cell 4
       simp at u0 u1 u2 u3 u4
       have r0 := (hE.pull 10).cell 0
       have r1 := (hE.pull 10).cell 1
       have r2 := (hE.pull 10).cell 2
       have r3 := (hE.pull 10).cell 3
       have r4 := (hE.pull 10).cell 4
       simp at r0 r1 r2 r3 r4
       have hEl := hE.lt
       clear hk2
       go_wp2_with fail
       refine han.mono ?_
       rintro z wF ⟨va, rfl, hF, kF⟩
       obtain ⟨vo, vc, rfl⟩ := hF.tLen
       have kF := kE.trans kF
       rw [q5']
       clear u0 u1 u2 u3 u4 r0 r1 r2 r3 r4 hEl han hE kE
       rcases hcs with ⟨hk, hacc, hp, hrr, hvv, hdn'⟩ | ⟨hk, hacc, hp, hrr, hvv, hdn'⟩ | ⟨hk, hacc, hp, hrr, hdn'⟩
       · have hm1 : D'.acc - D.acc = 1 := by omega
         clear hacc hwd
         have hkz : (k : Int) = 2 := by omega
         have hpz : ¬ (ep + 1 : Int) = 0 := by omega
         have hpb : ((ep + 1 : Int) == 0) = false := by rw [beq_eq_false_iff_ne]; exact hpz
         rw [hvv] at hF
         have u0 := (hF.pull 2).cell 0
         have u1 := (hF.pull 2).cell 1
         have u2 := (hF.pull 2).cell 2
         have u3 := (hF.pull 2).cell 3
         have u4 := (hF.pull 2).cell 4
         simp at u0 u1 u2 u3 u4
         have r0 := (hF.pull 11).cell 0
         have r1 := (hF.pull 11).cell 1
         have r2 := (hF.pull 11).cell 2
         have r3 := (hF.pull 11).cell 3
         have r4 := (hF.pull 11).cell 4
         simp at r0 r1 r2 r3 r4
         rw [hdn', hrr]
         simp only [if_true, Bool.false_eq_true, if_false]
         subst hp
         clear hkz0 hkz1
         go_wp2_with fail
         go_roundw
         case rel => exact ⟨k + 1, ph', C', tick D', by go_num, HOKR', HRK', Lib.hid ⟨HPI'.out.pin, HPI'.out.ep⟩, HDV', by show 0 ≤ D'.acc + 1; omega, by show D'.acc + 1 ≤ 10 + 5 * ((k + 1 : Nat) : Int); push_cast; omega, (((((hF).tail).pull 1).tail).pull 2).pull 1, kF⟩
         case measure => simp [intOf]; omega
       · have hm1 : D'.acc - D.acc = 0 := by omega
         clear hacc hwd
         have hkz : ¬ (k : Int) = 2 := by omega
         have hkb : ((k : Int) == 2) = false := by rw [beq_eq_false_iff_ne]; exact hkz
         have hpz : ¬ (ep + 1 : Int) = 0 := by omega
         have hpb : ((ep + 1 : Int) == 0) = false := by rw [beq_eq_false_iff_ne]; exact hpz
         rw [hvv] at hF
         have u0 := (hF.pull 2).cell 0
         have u1 := (hF.pull 2).cell 1
         have u2 := (hF.pull 2).cell 2
         have u3 := (hF.pull 2).cell 3
         have u4 := (hF.pull 2).cell 4
         simp at u0 u1 u2 u3 u4
         have r0 := (hF.pull 11).cell 0
         have r1 := (hF.pull 11).cell 1
         have r2 := (hF.pull 11).cell 2
         have r3 := (hF.pull 11).cell 3
         have r4 := (hF.pull 11).cell 4
         simp at r0 r1 r2 r3 r4
         rw [hdn', hrr]
         simp only [if_true, Bool.false_eq_true, if_false]
         subst hp
         clear hkz0 hkz1
         go_wp2_with fail
         go_roundw
         case rel => exact ⟨k + 1, ph', C', tick D', by go_num, HOKR', HRK', Lib.hid ⟨HPI'.out.pin, HPI'.out.ep⟩, HDV', by show 0 ≤ D'.acc + 1; omega, by show D'.acc + 1 ≤ 10 + 5 * ((k + 1 : Nat) : Int); push_cast; omega, (((((hF).tail).pull 1).tail).pull 2).pull 1, kF⟩
         case measure => simp [intOf]; omega
       · have hm1 : D'.acc - D.acc = 1 := by omega
         clear hacc hwd
         have hkz : ¬ (k : Int) = 2 := by omega
         have hkb : ((k : Int) == 2) = false := by rw [beq_eq_false_iff_ne]; exact hkz
         rw [hdn', hrr]
         simp only [if_true, Bool.false_eq_true, if_false]
         subst hp
         clear hkz0 hkz1
         go_wp2_with fail
         go_roundw
         case rel => exact ⟨k + 1, ph', C', tick D', by go_num, HOKR', HRK', Lib.hid ⟨HPI'.out.pin, HPI'.out.ep⟩, HDV', by show 0 ≤ D'.acc + 1; omega, by show D'.acc + 1 ≤ 10 + 5 * ((k + 1 : Nat) : Int); push_cast; omega, (((((hF).tail).pull 1).tail).pull 2).pull 1, kF⟩
         case measure => simp [intOf]; omega
end Go.Proofs.YtddglbjhhnipgaaGreatDoor

import Derived.Test.YtddglbjhhnipgaaGreatDoorHM
import Derived.Test.YtddglbjhhnipgaaGreatDoorJA
import Derived.Test.YtddglbjhhnipgaaGreatDoorHL
import Derived.Test.YtddglbjhhnipgaaGreatDoorIT
import Derived.Deep.RegionHeld3
namespace Go.Proofs.YtddglbjhhnipgaaGreatDoor
open Go Go.RowKit
set_option linter.unusedVariables false
set_option linter.unusedSimpArgs false
set_option maxRecDepth 100000
set_option maxHeartbeats 8000000
theorem clientPins_walk (ao : Option Addr) (n cap : Nat) (ts : List TinyD) (list : Bool) (path : ByteArray) (eao : Option Addr) (en ecap : Nat) (xs : List Int) (W : World) (hr : ArgRow W fT ao n cap ts) (hok : ∀ t ∈ ts, TinyOk t) (her : ArgRow W fU eao en ecap xs) (hxs : ∀ x ∈ xs, 0 ≤ x ∧ x < 256) (hT : Lib.Utf8Tabs (validS_ren.g 3) (validS_ren.g 4) W) :
   LawCalls Tryz.prog 11 #[.slice ao n cap, .bool list, .string path, .slice eao en ecap] W := by
 have H0 := Sat.start W
 have hle := hr.le
 have hsm := hr.small
 unfold maxLen at hsm
 have HL := Lib.hid hr.len
 have HT := Lib.hid hT
 have HR := Lib.hid hr
 have HOK := Lib.hid hok
 have HER := Lib.hid her
 have HXS := Lib.hid hxs
 have hel := her.le
 have hes := her.small
 unfold maxLen at hes
 clear her hxs
 clear hT hr hok
 go_enter Tryz.func11, Tryz.ntmps11
 go_wp2_with fail
 refine (client_awake H0).mono ?_
 rintro e w1 ⟨rfl, h1, k1⟩
 clear H0
 by_cases hmost : 12 < n
 · have hmost' : (12 : Int) < (n : Int) := by omega
   clear hmost
   go_wp2_with fail
   go_ret
   exact ⟨rfl, h1.below k1⟩
 have hmost' : ¬ (12 : Int) < (n : Int) := by omega
 by_cases hlong : 450 < path.size
 · have hlong' : (450 : Int) < (path.size : Int) := by omega
   clear hlong
   go_wp2_with fail
   go_ret
   exact ⟨rfl, h1.below k1⟩
 have hlong' : ¬ (450 : Int) < (path.size : Int) := by omega
 have hgr := ver_grownC (num := 3) (queue := 4) (by decide) (by decide) h1 HR.out HOK.out (by omega)
 clear h1
 go_wp2_with fail
 refine hgr.mono ?_
 rintro e w2 hQ
 clear hgr
 unfold GrownC at hQ
 obtain ⟨d, s, mk, ms, L, v, vl, AK, FK, AS, FS, GK, GS, tK, tS, ks, rfl, hE, hE2, hvn, hV, r1, r2, r3, r4, h2, k2⟩ := hQ
 have k2 := k1.trans k2
 have hg := grow_grown (ts.map ofT)
 generalize (growT (ts.map ofT)).1 = f at hE hE2 hg
 have h0 : f 0 = none := hg.low (by decide)
 have hpos : ∀ y ∈ ks, 0 ≤ y.node := fun y hy => by have := (hg.dom _ _ (hE2.mem y hy)).1; omega
 have hks8 : ks.length ≤ 8 := by
   have := nodup_le 8 256 (ks.map KidD.node) hE2.nodup (fun x hx => by
     obtain ⟨y, hy, rfl⟩ := List.mem_map.1 hx
     obtain ⟨h1, o, ho, h2⟩ := hg.dom y.node _ (hE2.mem y hy)
     obtain ⟨t, ht, rfl⟩ := List.mem_map.1 ho
     have h3 : 256 + t.node % 8 = y.node := h2
     omega)
   simpa using this
 have hL8 : L.length ≤ 8 := by rw [(enumk_perm hE hE2).length_eq]; exact hks8
 have hB := base_of hV hE2 hpos
 have hT8 : tK.size ≤ 8 := Nat.le_trans hV.zk hks8
 obtain ⟨a, er, hA⟩ := findA_ex hE path
 obtain ⟨Nn, hI, hN⟩ := step_new list hB hA h0
 have HNN := Lib.hid hN
 have HTR := Lib.hid hV.k.rep
 have HVK := Lib.hid (And.intro hV.ks hV.kg)
 have HB := Lib.hid hB
 have HLT := Lib.hid (And.intro hks8 hT8)
 have HI := Lib.hid hI
 have HF := Lib.hid (And.intro hA (And.intro hE (And.intro hE2 (And.intro hL8 (And.intro hks8 hvn)))))
 obtain ⟨lao, lcap, rfl, _⟩ := (h2.pull 4).poolArg (v := vl) (ks := L) (by simp)
 obtain ⟨D0, hD0⟩ : ∃ D : DeskD, D = { tick (newD 3 4) with n := v.n, ks := v.ks, kg := v.kg, ss := v.ss, sg := v.sg } := ⟨_, rfl⟩
 rw [← hD0] at h2
 have HD0 := Lib.hid (show verOf D0 = v ∧ D0.pins = [0, 0, 0] ∧ D0.reps = [zeroR, zeroR, zeroR] ∧ D0.acc = 1 ∧ D0.most = 4 ∧ D0.msgs = [] ∧ D0.closed = false ∧ D0.epoch = 0 by subst hD0; exact ⟨rfl, rfl, rfl, rfl, rfl, rfl, rfl, rfl⟩)
 clear hE hE2 hg h0 hpos hks8 hL8 hB hT8 hA hI hN hV r1 r2 r3 r4 k1 hvn hD0
 have h3 := h2.alloc (.cells #[.int .i64 3, .int .i64 0, .int .i64 0, .string path, .slice none 0 0] 24)
 have k3 := k2.alloc (.cells #[.int .i64 3, .int .i64 0, .int .i64 0, .string path, .slice none 0 0] 24)
 clear h2 k2
 obtain ⟨kd, hkd⟩ : ∃ kd : Int, kd = if list = true then 4 else 3 := ⟨_, rfl⟩
 have HKD := Lib.hid hkd
 go_upto_if 40 with (fail)
 generalize World.alloc _ _ = w3 at h3 k3 ⊢
 generalize w2.heap.size = X at h3 ⊢
 have x0 := (h3).cell 0
 have xf0 := (h3).free 0
 simp at x0
 have hxl := h3.lt
 go_cut [13] from 41 to 41 (fun xv wx => xv = .pointer (some ⟨X, 0, none⟩) ∧ Sat wx (own X (.cells #[.int .i64 kd, .int .i64 0, .int .i64 0, .string path, .slice none 0 0] 24 (0, 0)) :: deskP d D0 :: own s (.cells (stoC mk ms) 80 (0, 0)) :: mapK mk 2000 AK FK :: mapS ms 2000 AS FS :: poolP fK [(.slice lao L.length lcap, L)] :: oldH W :: []) ∧ Kp W wx)
 case first =>
   cases list with
   | true =>
     have h4 := h3.set 0 (.int .i64 4)
     have k4 := k3.setCell ⟨X, 0, none⟩ (.int .i64 4)
     go_wp2_with fail
     go_meet
     case rel => exact ⟨rfl, by rw [hkd]; exact h4, k4⟩
   | false =>
     go_wp2_with fail
     go_meet
     case rel => exact ⟨rfl, by rw [hkd]; exact h3, k3⟩
 case rest =>
   clear h3 k3 x0 xf0 hxl hkd
   obtain ⟨rfl, h4, k4⟩ := hcut
   have x0 := (h4).cell 0
   have x1 := (h4).cell 1
   have x2 := (h4).cell 2
   have x3 := (h4).cell 3
   have x4 := (h4).cell 4
   simp at x0 x1 x2 x3 x4
   have hxl := h4.lt
   have h5 := rowCa1 ⟨kd, 0, 0, path, none, 0, 0⟩ h4
   have k5 := k4.alloc (.cells #[.int .i64 kd, .int .i64 0, .int .i64 0, .string path, .slice none 0 0] 24)
   have hmf : ∀ (fn : Fn) (first cap : Array Value) (w : World), (Instr.makeFunc fn first cap).run Tryz.prog w = .ok (.func fn first cap) w := fun _ _ _ _ => rfl
   have hnc := cli_new (d := d) (s := s) (i := 2) (k := 54) (cap := #[]) h5 (by simp)
   clear h4 k4 h5
   go_wp2_with fail
   refine hnc.mono ?_
   rintro e w6 ⟨c, rfl, h6, k6⟩
   have k6 := k5.trans k6
   obtain ⟨xc, hxc⟩ : ∃ xc : CallD, xc = ⟨kd, 0, 0, path, none, 0, 0⟩ := ⟨_, rfl⟩
   have HXC := Lib.hid (show xc.kind = (if list = true then 4 else 3) ∧ xc.text = path by rw [hxc]; exact ⟨HKD.out, rfl⟩)
   rw [← hxc] at h6
   clear hxc
   clear hnc k5 x0 x1 x2 x3 x4 hxl hmf
   have h7 : Sat w6 (cliP c d s (.func (.func 54) #[] #[]) (newC 2 [xc]) :: emp :: deskP d D0 :: rdPiece .begin :: oldH W :: own s (.cells (stoC mk ms) 80 (0, 0)) :: mapK mk 2000 AK FK :: mapS ms 2000 AS FS :: poolP fK [(.slice lao L.length lcap, L)] :: []) := ((((((((((h6).pull 1).tail).pull 1).tail).emp.emp).pull 8).pull 2).pull 4).pull 3).pull 4
   clear h6
   go_wp2_with fail
   go_loopw [15, 16] (fun fv kv wr => ∃ (k : Nat) (first : Int) (ph : RdPh) (C : CliD) (D : DeskD), kv = .int .i64 k ∧ fv = .int .i64 first ∧ 0 ≤ first ∧ first ≤ 300 ∧ Hid (RdOk f ks AK tK list v Nn a er 2 xc ph C) ∧ Hid (RdK k ph) ∧ Hid (PinI 2 first ph C D) ∧ Hid (verOf D = v ∧ D.reps[2]? = some zeroR ∧ D.pins.length = 3) ∧ 0 ≤ D.acc ∧ D.acc ≤ 10 + 5 * k ∧ Sat wr (cliP c d s (.func (.func 54) #[] #[]) C :: emp :: deskP d D :: rdPiece ph :: oldH W :: own s (.cells (stoC mk ms) 80 (0, 0)) :: mapK mk 2000 AK FK :: mapS ms 2000 AS FS :: poolP fK [(.slice lao L.length lcap, L)] :: []) ∧ Kp W wr) (fun _ kv _ => 300 - (intOf kv).toNat)
   case atStart => exact ⟨0, 0, .begin, newC 2 [xc], D0, rfl, rfl, by decide, by decide, Lib.hid (rd_begin 2 xc), Lib.hid rfl, Lib.hid ⟨by rw [HD0.out.2.1]; rfl, fun h => by cases h⟩, Lib.hid ⟨HD0.out.1, by rw [HD0.out.2.2.1]; rfl, by rw [HD0.out.2.1]; rfl⟩, by rw [HD0.out.2.2.2.1]; decide, by rw [HD0.out.2.2.2.1]; decide, h7, k6⟩
   case round =>
     clear h7 k6 HD0
     obtain ⟨k, first, ph, C, D, rfl, rfl, hf0, hf1, HOKR, HRK, HPI, HDV, hD0, hD1, h8, k8⟩ := hrel
     have hk85 := HRK.out.le
     have hk300 : (k : Int) < 300 := by omega
     have hk0 : (0 : Int) ≤ (k : Int) := by omega
     have hwk : IntKind.i64.wrap ((k : Int) + 1) = (k : Int) + 1 := by rw [IntWalk.i64_in _ (by omega)]
     have hwf : IntKind.i64.wrap (first + 1) = first + 1 := by rw [IntWalk.i64_in _ (by omega)]
     obtain ⟨q1, q2, q3, q4, q5⟩ := HOKR.out.rdc
     have hrp : D.reps[C.i]? = some zeroR := by rw [q2]; exact HDV.out.2.1
     have hat : C.at' ≤ 1000000 := by rw [q3]; split <;> decide
     cases hdn : isDone ph with
     | true =>
       have hrd := cli_rdy (r := zeroR) false (by rw [rd_ready HOKR.out, hdn]; rfl) h8 hrp hat
       rw [hdn] at q5
       simp only [if_true] at q5
       clear h8
       go_wp2_with fail
       refine hrd.mono ?_
       rintro z w9 ⟨rfl, h9, k9⟩
       have k9 := k8.trans k9
       have han := cli_answers h9 (by omega)
       clear hrd h9 k8
       go_wp2_with fail
       refine han.mono ?_
       rintro z wA ⟨va, rfl, hA, kA⟩
       obtain ⟨vo, vc, rfl⟩ := hA.tLen
       have kA := k9.trans kA
       have hrd := cli_rdy (r := zeroR) false (by rw [rd_ready HOKR.out, hdn]; rfl) (hA.tail) hrp hat
       rw [q5]
       clear han hA k9
       go_wp2_with fail
       refine hrd.mono ?_
       rintro z wB ⟨rfl, hB, kB⟩
       go_wp2_with fail
       go_ret
       exact ⟨rfl, (hB.pull 4).below (kA.trans kB)⟩
     | false =>
       have hrd := cli_rdy (r := zeroR) true (by rw [rd_ready HOKR.out, hdn]; rfl) h8 hrp hat
       clear h8
       go_wp2_with fail
       refine hrd.mono ?_
       rintro z w9 ⟨rfl, h9, k9⟩
       have k9 := k8.trans k9
       clear hrd k8
       go_upto_if 60 with (fail)
       go_cut [17] from 49 to 109 (fun nv wx => ∃ now : Int, nv = .int .i64 now ∧ 0 ≤ now ∧ now ≤ 300 ∧ w9 = wx)
       case first =>
         by_cases he0 : en = 0
         · have he0' : ¬ (0 : Int) < (en : Int) := by omega
           clear he0
           go_wp2_with fail
           go_meet
           case rel => exact ⟨k, rfl, hk0, by omega, rfl⟩
         · have he0' : (0 : Int) < (en : Int) := by omega
           have har := HER.out.old (h9.pull 4)
           have hlt : k % en < en := Nat.mod_lt _ (by omega)
           obtain ⟨xe, hxe⟩ : ∃ xe, xs[k % en]? = some xe := ⟨_, List.getElem?_eq_getElem (by rw [HER.out.len]; exact hlt)⟩
           obtain ⟨tb, toff, rfl⟩ := har.some hlt
           have x0 := har.cell (size := 1) (fun _ => rfl) 0 rfl hxe rfl
           have hxr := HXS.out xe (List.mem_of_getElem? hxe)
           have hx0 := hxr.1
           have hx1 := hxr.2
           have hmod : (k : Int) % (en : Int) = ((k % en : Nat) : Int) := by omega
           have htm : Int.tmod (k : Int) (en : Int) = ((k % en : Nat) : Int) := by rw [Int.tmod_eq_emod_of_nonneg hk0]; exact hmod
           generalize k % en = j at hlt x0 hmod htm
           have hj0 : (0 : Int) ≤ (j : Int) := by omega
           have hj1 : (j : Int) < (en : Int) := by omega
           have hne0 : ¬ (en : Int) = 0 := by omega
           have hwx : IntKind.i64.wrap xe = xe := by rw [IntWalk.i64_in _ (by omega)]
           simp only [Nat.mul_one, Nat.add_zero] at x0
           clear har hxr hxe he0
           go_wp2_with fail
           go_meet
           case rel => exact ⟨xe, rfl, hx0, by omega, rfl⟩
       case rest =>
         obtain ⟨now, rfl, hn0, hn1, rfl⟩ := hcut
         have hse := desk_setEpoch (n := now) (h9.pull 2) hD0 (by omega)
         clear h9
         go_wp2_with fail
         refine hse.mono ?_
         rintro z wA ⟨rfl, hA, kA⟩
         have kA := k9.trans kA
         clear hse k9
         obtain ⟨f1, hf1e⟩ : ∃ f1 : Int, f1 = if k = 0 then now else first := ⟨_, rfl⟩
         go_upto_if 73 with (fail)
         go_cut [15] from 49 to 109 (fun fv wx => fv = .int .i64 f1 ∧ wA = wx)
         case first =>
           by_cases hkz : k = 0
           · subst hkz
             rw [if_pos rfl] at hf1e
             subst hf1e
             go_wp2_with fail
             go_meet
             case rel => exact ⟨rfl, rfl⟩
           · rw [if_neg hkz] at hf1e
             subst hf1e
             have hkz' : ¬ (k : Int) = 0 := by omega
             clear hkz
             go_wp2_with fail
             go_meet
             case rel => exact ⟨rfl, rfl⟩
         case rest =>
           obtain ⟨rfl, rfl⟩ := hcut
           have hf2 : 0 ≤ f1 ∧ f1 ≤ 300 := by rw [hf1e]; split <;> omega
           have HF1 := Lib.hid hf1e
           have hstep := read_step (y := ()) note_pins HT.out HB.out HLT.out.1 HLT.out.2 ⟨Nn, rfl, HI.out⟩ trivial HXC.out.1 HXC.out.2 (D := { tick D with epoch := now }) (r := zeroR) HDV.out.2.1 (by show 2 < D.pins.length; rw [HDV.out.2.2]; decide) (by show 0 ≤ D.acc + 1; omega) (by show D.acc + 1 < 1000000000; omega) (by show -1000000000 ≤ now; omega) (by show now ≤ 1000000000; omega) (fun _ => HDV.out.1) HOKR.out (by rintro fb F ao' m' cp' rfl; cases hdn) (((hA).pull 2).pull 2)
           clear hA hf1e
           go_wp2_with fail
           refine hstep.mono ?_
           rintro z wB ⟨rfl, ⟨ph', C', D', y', hok', hnx, hB⟩, kB⟩
           have kB := kA.trans kB
           have hpi := PinI.next (first' := f1) (D := { tick D with epoch := now }) ⟨HPI.out.pin, HPI.out.ep⟩ (fun h => by rw [HF1.out, if_pos ((rdk_zero HRK.out).2 h)]) (fun h => by rw [HF1.out, if_neg (fun e => h ((rdk_zero HRK.out).1 e))]) hnx
           have hrk := rdk_next HB.out HLT.out.1 HLT.out.2 HOKR.out HRK.out hnx
           obtain ⟨d1, d2, d3, d4, d5, d6, d7, d8, d9, d10⟩ := rd_desk hnx
           have hcs := rd_case HRK.out hnx f1
           have hpp := hpi.pin
           have HOKR' := Lib.hid hok'
           have HRK' := Lib.hid hrk
           have HPI' := Lib.hid hpi
           have HDV' := Lib.hid (show verOf (tick D') = v ∧ (tick D').reps[2]? = some zeroR ∧ (tick D').pins.length = 3 from ⟨d1.trans HDV.out.1, by show D'.reps[2]? = _; rw [d2]; exact HDV.out.2.1, by show D'.pins.length = 3; rw [d7]; exact HDV.out.2.2⟩)
           have hD0' : 0 ≤ D'.acc := by have : D.acc + 1 ≤ D'.acc := d9; omega
           have hD1' : D'.acc ≤ 12 + 5 * k := by have : D'.acc ≤ D.acc + 1 + 1 := d10; omega
           have q5' := hok'.rdc.2.2.2.2
           generalize pinOf f1 ph' = p at hcs hpp
           have hpn := desk_pin (hB.pull 2) hD0' (by omega) hpp
           clear hstep hok' hnx hpi hrk d1 d2 d3 d4 d5 d6 d7 d8 d9 d10 hB kA hpp q1 q2 q3 q4 q5 hrp hat HF1
           go_wp2_with fail
           refine hpn.mono ?_
           rintro z wC ⟨rfl, hC, kC⟩
           have kC := kB.trans kC
           have han := cli_answers (hC.pull 1) (by rw [q5']; split <;> decide)
           clear hpn hC kB
           go_wp2_with fail
           refine han.mono ?_
           rintro z wD ⟨va, rfl, hD, kD⟩
           obtain ⟨vo, vc, rfl⟩ := hD.tLen
           have kD := kC.trans kD
           have hwf1 : IntKind.i64.wrap (f1 + 1) = f1 + 1 := by rw [IntWalk.i64_in _ (by omega)]
           rw [q5']
           clear han kC
           rcases hcs with ⟨hkz, hdn', hp⟩ | ⟨hkz, hdn', hp⟩ | ⟨hkz, hdn', hp⟩
           · have hkz' : (k : Int) = 0 := by omega
             rw [hdn']
             simp only [if_true, Bool.false_eq_true, if_false]
             subst hp
             clear hkz
             go_wp2_with fail
             go_roundw
             case rel => exact ⟨k + 1, f1, ph', C', tick D', by go_num, rfl, hf2.1, hf2.2, HOKR', HRK', Lib.hid ⟨HPI'.out.pin, HPI'.out.ep⟩, HDV', by show 0 ≤ D'.acc + 1; omega, by show D'.acc + 1 ≤ 10 + 5 * ((k + 1 : Nat) : Int); push_cast; omega, (((hD).tail).pull 2).pull 1, kD⟩
             case measure => simp [intOf]; omega
           · have hkz' : ¬ (k : Int) = 0 := by omega
             have hkz2 : (0 : Int) < (k : Int) := by omega
             rw [hdn']
             simp only [if_true, Bool.false_eq_true, if_false]
             subst hp
             clear hkz
             go_wp2_with fail
             go_roundw
             case rel => exact ⟨k + 1, f1, ph', C', tick D', by go_num, rfl, hf2.1, hf2.2, HOKR', HRK', Lib.hid ⟨HPI'.out.pin, HPI'.out.ep⟩, HDV', by show 0 ≤ D'.acc + 1; omega, by show D'.acc + 1 ≤ 10 + 5 * ((k + 1 : Nat) : Int); push_cast; omega, (((hD).tail).pull 2).pull 1, kD⟩
             case measure => simp [intOf]; omega
           · have hkz' : ¬ (k : Int) = 0 := by omega
             have hkz2 : (0 : Int) < (k : Int) := by omega
             rw [hdn']
             simp only [if_true, Bool.false_eq_true, if_false]
             subst hp
             clear hkz
             go_wp2_with fail
             go_roundw
             case rel => exact ⟨k + 1, f1, ph', C', tick D', by go_num, rfl, hf2.1, hf2.2, HOKR', HRK', Lib.hid ⟨HPI'.out.pin, HPI'.out.ep⟩, HDV', by show 0 ≤ D'.acc + 1; omega, by show D'.acc + 1 ≤ 10 + 5 * ((k + 1 : Nat) : Int); push_cast; omega, (((hD).tail).pull 2).pull 1, kD⟩
             case measure => simp [intOf]; omega
end Go.Proofs.YtddglbjhhnipgaaGreatDoor

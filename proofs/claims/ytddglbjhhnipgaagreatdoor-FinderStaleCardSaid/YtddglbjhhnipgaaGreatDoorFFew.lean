import Derived.Test.YtddglbjhhnipgaaGreatDoorIT
import Derived.Deep.RegionHeld3
namespace Go.Proofs.YtddglbjhhnipgaaGreatDoor
open Go Go.RowKit
set_option linter.unusedVariables false
set_option linter.unusedSimpArgs false

theorem slice_len {α : Type} {f : α → List Value} {w : World} {ao : Option Addr} {n cap : Nat} {e : TypeId} {size : Nat} {xs : List α} {l : List HProp} (hs : Sat w (rowT f (.slice ao n cap) e size xs :: l)) : xs.length = n := by
  obtain ⟨_, _, e0⟩ := hs.tLen
  simp only [Value.slice.injEq] at e0
  exact e0.2.1.symm
theorem load_root_v {w : World} {l : List HProp} {m : Nat} {most : Int} {A : List SlotK} {F : List Int} {T : HTK} {v : VerD} (hs : Sat w (mapK m most A F :: l)) (hR : RepO A T) (hk : v.ks = T.root.s ∧ v.kg = T.root.g) :
    Calls Tryz.prog 40 #[.pointer (some ⟨m, 0, none⟩), .agg #[.int .i64 v.ks, .int .i64 v.kg]] w fun e w' => ∃ k b lh rh bb, e = .returned (.tuple #[.agg (nodC k b lh rh T.high), .bool bb]) ∧ Sat w' (mapK m most A F :: l) ∧ Kp w w' := by
  rw [hk.1, hk.2]
  exact load_root hs hR
theorem field_ansE (e ver node : Int) (ko : Option Addr) (kn kc : Nat) (W : World) : (Instr.field 28 (.agg #[.int .i64 e, .int .i64 ver, .int .i64 node, .slice ko kn kc, .slice none 0 0]) 0).run Tryz.prog W = .ok (.int .i64 e) W := by
  first | kernel_rfl | rfl | simp [Instr.field, go_sem]
theorem field_ansK (e ver node : Int) (ko : Option Addr) (kn kc : Nat) (W : World) : (Instr.field 28 (.agg #[.int .i64 e, .int .i64 ver, .int .i64 node, .slice ko kn kc, .slice none 0 0]) 3).run Tryz.prog W = .ok (.slice ko kn kc) W := by
  first | kernel_rfl | rfl | simp [Instr.field, go_sem]

set_option maxRecDepth 100000 in
set_option maxHeartbeats 4000000 in
theorem finderFew_walk (ao : Option Addr) (n cap : Nat) (ts : List TinyD) (list : Bool) (path : ByteArray) (W : World) (hr : ArgRow W fT ao n cap ts) (hok : ∀ t ∈ ts, TinyOk t) (hT : Lib.Utf8Tabs (validS_ren.g 3) (validS_ren.g 4) W) :
    LawCalls Tryz.prog 5 #[.slice ao n cap, .bool list, .string path] W := by
  have H0 := Sat.start W
  have hle := hr.le
  have hsm := hr.small
  unfold maxLen at hsm
  have HL := Lib.hid hr.len
  have HT := Lib.hid hT
  have HR := Lib.hid hr
  have HOK := Lib.hid hok
  clear hT hr hok
  go_enter Tryz.func5, Tryz.ntmps5
  go_wp2_with fail
  refine (awake13 HT.out H0).mono ?_
  rintro e w1 ⟨rfl, h1, k1⟩
  clear H0
  by_cases hmost : 30 < n
  · have hmost' : (30 : Int) < (n : Int) := by omega
    clear hmost
    go_wp2_with fail
    go_ret
    exact ⟨rfl, h1.below k1⟩
  have hmost' : ¬ (30 : Int) < (n : Int) := by omega
  by_cases hlong : 500 < path.size
  · have hlong' : (500 : Int) < (path.size : Int) := by omega
    clear hlong
    go_wp2_with fail
    go_ret
    exact ⟨rfl, h1.below k1⟩
  have hlong' : ¬ (500 : Int) < (path.size : Int) := by omega
  have hgr := ver_grown (num := 1) h1 HR.out HOK.out (by omega)
  clear h1
  go_wp2_with fail
  refine hgr.mono ?_
  rintro e w2 hQ
  clear hgr
  unfold GrownV at hQ
  obtain ⟨s, mk, ms, L, v, vl, AK, FK, AS, FS, GK, GS, tK, tS, ks, rfl, hE, hE2, hvn, hV, r1, r2, r3, r4, h2, k2⟩ := hQ
  have k2 := k1.trans k2
  have hg := grow_grown (ts.map ofT)
  generalize (growT (ts.map ofT)).1 = f at hE hE2 hg
  have h0 : f 0 = none := hg.low (by decide)
  have hpos : ∀ y ∈ ks, 0 ≤ y.node := fun y hy => by have := (hg.dom _ _ (hE2.mem y hy)).1; omega
  have hks8 : ks.length ≤ 8 := by
    have := nodup_le 8 256 (ks.map KidD.node) hE2.nodup (fun x hx => by
      obtain ⟨y, hy, rfl⟩ := List.mem_map.1 hx
      obtain ⟨h1, o, ho, h2⟩ := hg.dom y.node _ (hE2.mem y hy)
      obtain ⟨t, ht, rfl⟩ := List.mem_map.1 ho
      have h3 : 256 + t.node % 8 = y.node := h2
      omega)
    simpa using this
  have hL8 : L.length ≤ 8 := by rw [(enumk_perm hE hE2).length_eq]; exact hks8
  have hB := base_of hV hE2 hpos
  have hT8 : tK.size ≤ 8 := Nat.le_trans hV.zk hks8
  obtain ⟨a, er, hA⟩ := findA_ex hE path
  obtain ⟨N, hI, hN⟩ := step_new list hB hA h0
  have HN := Lib.hid hN
  have HTR := Lib.hid hV.k.rep
  have HVK := Lib.hid (And.intro hV.ks hV.kg)
  clear hN
  have HS := Lib.hid (And.intro hB (And.intro hks8 (And.intro hT8 hI)))
  have HF := Lib.hid (And.intro hA (And.intro hE (And.intro hE2 (And.intro hL8 (And.intro hks8 hvn)))))
  obtain ⟨lao, lcap, rfl, _⟩ := (h2.pull 3).poolArg (v := vl) (ks := L) (by simp)
  clear hE hE2 hg h0 hpos hks8 hL8 hB hT8 hA hI hV r1 r2 r3 r4 k1 hvn
  simp only [aggV]
  have h3 := h2.alloc (.cells #[.int .i64 v.n, .int .i64 v.ks, .int .i64 v.kg, .int .i64 v.ss, .int .i64 v.sg] 58)
  have k3 := k2.alloc (.cells #[.int .i64 v.n, .int .i64 v.ks, .int .i64 v.kg, .int .i64 v.ss, .int .i64 v.sg] 58)
  clear h2 k2
  go_upto_region 5 with (fail)
  generalize World.alloc _ _ = w3 at h3 k3 ⊢
  generalize w2.heap.size = V at h3 ⊢
  have v0 := (h3).cell 0
  have v1 := (h3).cell 1
  have v2 := (h3).cell 2
  have v3 := (h3).cell 3
  have v4 := (h3).cell 4
  simp at v0 v1 v2 v3 v4
  have hnw := find_new (v := v) (list := list) (path := path) HT.out (h3.pull 5)
  unfold aggV at hnw
  clear h3
  go_wp2_with fail
  refine hnw.mono ?_
  rintro e w4 ⟨fb, rfl, h4, k4⟩
  clear hnw
  have k4 := k3.trans k4
  clear k3 v0 v1 v2 v3 v4
  have hsp := name_split_any HT.out path (h4.pull 1)
  have hfe := fun (e ver node : Int) (ko : Option Addr) (kn kc : Nat) (W : World) => field_ansE e ver node ko kn kc W
  have hfk := fun (e ver node : Int) (ko : Option Addr) (kn kc : Nat) (W : World) => field_ansK e ver node ko kn kc W
  clear h4
  go_wp2_with fail
  refine hsp.mono ?_
  rintro e w5 ⟨k5, ⟨hp, rfl, h5⟩ | ⟨vn, nms, hp, hn1, hn2, rfl, h5⟩⟩
  · have k5 := k4.trans k5
    have hno : (newFD v list path).next = .no := by unfold newFD; rw [hp]; rfl
    have hD := HS.out.2.2.2.end hno
    have he4 : er = 4 := by
      rcases HN.out with ⟨_, h, _⟩ | ⟨nm, h, _⟩
      · exact h
      · rw [hp] at h; cases h
    have hlo0 := newFD_loads v list path
    generalize newFD v list path = D at h5 hD hno hlo0
    have hwa := find_want_no (h5.pull 1) hno
    rw [hD.want] at hwa
    simp only [Hd.nil] at hwa
    have HD := Lib.hid hD
    have HL0 := Lib.hid hlo0
    have HE4 := Lib.hid he4
    have HNO := Lib.hid hno
    clear h5 hD hno hlo0 he4 hsp k4
    go_wp2_with fail
    refine hwa.mono ?_
    rintro x w6 ⟨rfl, h6, k6⟩
    clear hwa
    have k6 := k5.trans k6
    have hlo := find_loads h6
    rw [HL0.out] at hlo
    have h7 := h6.alloc (.cells #[.int .i64 0, .int .i64 0] 56)
    have k7 := k6.alloc (.cells #[.int .i64 0, .int .i64 0] 56)
    have hlo := find_loads (h7.pull 1)
    rw [HL0.out] at hlo
    clear h6 k6 k5 h7
    go_wp2_with fail
    refine hlo.mono ?_
    rintro x w8 ⟨rfl, h8, k8⟩
    clear hlo
    have k8 := k7.trans k8
    have han := find_answer h8 HNO.out (by rw [HD.out.ans]; exact Nat.le_trans (kidsA_len _ _ _ _) (Nat.le_trans HF.out.2.2.2.2.1 (by decide)))
    rw [HD.out.er, HE4.out] at han
    clear h8 k7
    go_wp2_with fail
    refine han.mono ?_
    rintro x w9 ⟨ko, kn, kc, rfl, h9, k9⟩
    clear han
    have k9 := k8.trans k9
    go_wp2_with fail
    go_ret
    exact ⟨rfl, (h9.pull 3).below k9⟩
  · have k5 := k4.trans k5
    have hNn : N = nms.length := by
      rcases HN.out with ⟨h, _⟩ | ⟨nm, h, h2, _⟩
      · rw [hp] at h; cases h
      · rw [hp] at h; cases h; exact h2
    have hwa := find_want (h5.pull 2)
    obtain ⟨nao, ncap, rfl⟩ := h5.tLen
    generalize hnl : nms.length = nl at h5 hNn hn1 hwa ⊢
    subst hNn
    generalize newFD v list path = D0 at hwa HS
    generalize moreF D0 = mo at hwa
    clear h5 hsp k4 hnl hn2
    go_wp2_with fail
    refine hwa.mono ?_
    rintro x w6 ⟨rfl, h6, k6⟩
    clear hwa
    have k6 := k5.trans k6
    have h7 := h6.alloc (.cells #[.int .i64 D0.want.s, .int .i64 D0.want.g] 56)
    have k7 := k6.alloc (.cells #[.int .i64 D0.want.s, .int .i64 D0.want.g] 56)
    have hru := run_ok (AS := []) (FS := []) (((h7.pull 6).pull 6).pull 3) HS.out.1 HS.out.2.1 HS.out.2.2.1 HS.out.2.2.2
    have HB := Lib.hid HS.out.1
    have HT8 := Lib.hid HS.out.2.2.1
    clear h6 k6 k5 h7 HS
    go_wp2_with fail
    refine hru.mono ?_
    rintro x w8 ⟨rfl, D, hD, h8, k8⟩
    clear hru
    have k8 := k7.trans k8
    have hbd := few_bound HB.out hD
    have HD := Lib.hid hD
    have HBD := Lib.hid hbd
    have hh := HB.out.sub.hi.pos
    have ht8 := HT8.out
    have hh0 : 0 ≤ tK.high := hh.1
    have hh8 : tK.high ≤ 8 := by omega
    have hkl : D.kids.length ≤ 8 := by rw [hD.ans]; exact Nat.le_trans (kidsA_len _ _ _ _) HF.out.2.2.2.2.1
    have hb1 : (N : Int) * tK.high ≤ 3200 := by
      have := Int.mul_le_mul (a := (N : Int)) (b := tK.high) (c := 400) (d := 8) (by omega) hh8 hh0 (by omega)
      omega
    have hb0 : 0 ≤ (N : Int) * tK.high := Int.mul_nonneg (by omega) hh0
    have hw1 : IntKind.i64.wrap ((N : Int) * tK.high) = (N : Int) * tK.high := by rw [IntWalk.i64_in _ (by omega)]
    have hw2 : IntKind.i64.wrap (2 * tK.high) = 2 * tK.high := by rw [IntWalk.i64_in _ (by omega)]
    have hw3 : IntKind.i64.wrap ((N : Int) * tK.high + 2 * tK.high) = (N : Int) * tK.high + 2 * tK.high := by rw [IntWalk.i64_in _ (by omega)]
    have hw4 : IntKind.i64.wrap ((N : Int) * tK.high + 2 * tK.high + (D.kids.length : Int)) = (N : Int) * tK.high + 2 * tK.high + (D.kids.length : Int) := by rw [IntWalk.i64_in _ (by omega)]
    have HKL := Lib.hid hkl
    clear k7 hD hbd hh ht8 hb1 hb0 hkl hh8 hh0
    go_upto_region 13 with (fail)
    have c1 := (h8.pull 6).cell 1
    have c2 := (h8.pull 6).cell 2
    simp at c1 c2
    have s0 := (h8.pull 1).cell 0
    simp [stoC] at s0
    have hsl := (h8.pull 1).lt
    have hcl := (h8.pull 6).lt
    have hL1 := load_root_v (v := v) ((h8.pull 2).drew) HTR.out HVK.out
    have hL2 := load_root_v (v := v) ((((h8.pull 2).alloc (.cells #[.int .i64 0, .string ⟨#[]⟩, .int .i64 0, .bool false, .int .i64 0, .int .i64 0, .int .i64 0, .int .i64 0, .int .i64 0] 75)).swap).drew) HTR.out HVK.out
    go_cut [17, 18] from 77 (fun nv ov wx => ∃ (Q : Nat) (k : KidD) (b : Bool) (lh rh : Hd) (bb : Bool), nv = .pointer (some ⟨Q, 0, none⟩) ∧ ov = .bool bb ∧ Sat wx (own Q (.cells (nodC k b lh rh tK.high) 75 (0, 0)) :: mapK mk 2000 AK FK :: findP fb D :: own s (.cells (stoC mk ms) 80 (0, 0)) :: own w6.heap.size (.cells #[.int .i64 D0.want.s, .int .i64 D0.want.g] 56 (0, 0)) :: rowT fSt (.slice nao N ncap) 9 1 nms :: oldH W :: own V (.cells #[.int .i64 v.n, .int .i64 v.ks, .int .i64 v.kg, .int .i64 v.ss, .int .i64 v.sg] 58 (0, 0)) :: mapS ms 2000 AS FS :: poolP fK [(.slice lao L.length lcap, L)] :: []) ∧ Kp W wx)
    case first =>
      unfold nodC at hL1 hL2
      go_region_with ((first | (go_at_call 40; (with_reducible refine hL1.mono ?_); rintro x w9 ⟨k, b, lh, rh, bb, rfl, h9, k9⟩) | (go_at_call 40; (with_reducible refine hL2.mono ?_); rintro x w9 ⟨k, b, lh, rh, bb, rfl, h9, k9⟩; have q0 := (h9.pull 1).cell 0; have q1 := (h9.pull 1).cell 1; have q2 := (h9.pull 1).cell 2; have q3 := (h9.pull 1).cell 3; have q4 := (h9.pull 1).cell 4; have q5 := (h9.pull 1).cell 5; have q6 := (h9.pull 1).cell 6; have q7 := (h9.pull 1).cell 7; have q8 := (h9.pull 1).cell 8; have qf0 := (h9.pull 1).free 0; have qf1 := (h9.pull 1).free 1; have qf2 := (h9.pull 1).free 2; have qf3 := (h9.pull 1).free 3; have qf4 := (h9.pull 1).free 4; have qf5 := (h9.pull 1).free 5; have qf6 := (h9.pull 1).free 6; have qf7 := (h9.pull 1).free 7; have qf8 := (h9.pull 1).free 8; simp at q0 q1 q2 q3 q4 q5 q6 q7 q8; have qf0 := (h9.pull 1).free 0; have qf1 := (h9.pull 1).free 1; have qf2 := (h9.pull 1).free 2; have qf3 := (h9.pull 1).free 3; have qf4 := (h9.pull 1).free 4; have qf5 := (h9.pull 1).free 5; have qf6 := (h9.pull 1).free 6; have qf7 := (h9.pull 1).free 7; have qf8 := (h9.pull 1).free 8)))
      all_goals
        go_wp2_with fail
        go_meet
        case rel =>
          first
          | (have hq := qf8
             exact ⟨_, k, b, lh, rh, bb, rfl, rfl, load2g h9, Kp.putCells [.int .i64 k.up, .string k.name, .int .i64 k.node, .bool b, .int .i64 lh.s, .int .i64 lh.g, .int .i64 rh.s, .int .i64 rh.g, .int .i64 tK.high] 0 (((k8.alloc _).drew).trans k9)⟩)
          | exact ⟨_, k, b, lh, rh, bb, rfl, rfl, load1 h9, (k8.drew.trans k9).alloc _⟩
    case rest =>
      clear hL1 hL2 c1 c2 s0 hsl hcl h8 k8
      obtain ⟨Q, k, b, lh, rh, bb, rfl, rfl, h9, k9⟩ := hcut
      have q8 := (h9).cell 8
      simp [nodC] at q8
      have hhb := HBD.out
      have hd0 := HD.out.next
      cases list with
      | false =>
        have hle : D.loads ≤ (N : Int) * tK.high := by simpa using hhb
        have hlo := find_loads (h9.pull 2)
        clear h9 hhb
        go_wp2_with fail
        refine hlo.mono ?_
        rintro x w10 ⟨rfl, h10, k10⟩
        clear hlo
        have k10 := k9.trans k10
        go_wp2_with fail
        go_ret
        exact ⟨rfl, (h10.pull 6).below k10⟩
      | true =>
        have hle : D.loads ≤ (N : Int) * tK.high + 2 * tK.high + (D.kids.length : Int) := by rw [if_pos rfl] at hhb; omega
        have S0 : wc.drew.cell? ⟨Q, 8, none⟩ = some (.int .i64 tK.high) := h9.drew.cell 8
        have han := find_answer ((h9.pull 2).drew) hd0 (Nat.le_trans HKL.out (by decide))
        clear h9 hhb
        go_upto_region 16 with (fail)
        go_region_held3 (fun w' => w'.cell? ⟨Q, 8, none⟩ = some (.int .i64 tK.high)) (first | with_reducible exact S0 | with_reducible exact SA | fail) ((go_at_call 36; (with_reducible refine han.mono ?_); rintro x w10 ⟨ko, kn, kc, rfl, h10, k10⟩; obtain rfl := slice_len h10; have SA : w10.cell? ⟨Q, 8, none⟩ = some (.int .i64 tK.high) := (h10.pull 2).cell 8))
        have k11 := k9.drew.trans k10
        have hlo := find_loads (h10.pull 1)
        clear han S0 SA q8 h10
        go_wp2_with fail
        refine hlo.mono ?_
        rintro x w11 ⟨rfl, h11, k12⟩
        clear hlo
        have k13 := k11.trans k12
        go_wp2_with fail
        go_ret
        exact ⟨rfl, (h11.pull 7).below k13⟩

end Go.Proofs.YtddglbjhhnipgaaGreatDoor

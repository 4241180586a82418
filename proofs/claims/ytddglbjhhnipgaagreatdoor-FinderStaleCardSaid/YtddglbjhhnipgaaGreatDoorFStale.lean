import Derived.Test.YtddglbjhhnipgaaGreatDoorFFew
import Derived.Test.YtddglbjhhnipgaaGreatDoorIV
namespace Go.Proofs.YtddglbjhhnipgaaGreatDoor
open Go Go.RowKit
set_option linter.unusedVariables false
set_option linter.unusedSimpArgs false

theorem fstO {w : World} {l : List HProp} {F Q K B O V S : HProp} (h : Sat w (F :: Q :: K :: B :: O :: V :: S :: l)) : Sat w (F :: O :: V :: S :: K :: l) := (((h.pull 1).tail.pull 2).tail.pull 1).push 4
set_option maxRecDepth 100000 in
set_option maxHeartbeats 4000000 in
theorem finderStale_walk (ao : Option Addr) (n cap : Nat) (ts : List TinyD) (list : Bool) (path : ByteArray) (at' : Int) (W : World) (hr : ArgRow W fT ao n cap ts) (hok : ∀ t ∈ ts, TinyOk t) (ha0 : 0 ≤ at') (ha1 : at' < 256) (hT : Lib.Utf8Tabs (validS_ren.g 3) (validS_ren.g 4) W) :
    LawCalls Tryz.prog 6 #[.slice ao n cap, .bool list, .string path, .int .u8 at'] W := by
  have H0 := Sat.start W
  have hle := hr.le
  have hsm := hr.small
  unfold maxLen at hsm
  have HL := Lib.hid hr.len
  have HT := Lib.hid hT
  have HR := Lib.hid hr
  have HOK := Lib.hid hok
  clear hT hr hok
  go_enter Tryz.func6, Tryz.ntmps6
  go_wp2_with fail
  refine (awake13 HT.out H0).mono ?_
  rintro e w1 ⟨rfl, h1, k1⟩
  clear H0
  by_cases hmost : 30 < n
  · have hmost' : (30 : Int) < (n : Int) := by omega
    clear hmost
    go_wp2_with fail
    go_ret
    exact ⟨rfl, h1.below k1⟩
  have hmost' : ¬ (30 : Int) < (n : Int) := by omega
  by_cases hlong : 500 < path.size
  · have hlong' : (500 : Int) < (path.size : Int) := by omega
    clear hlong
    go_wp2_with fail
    go_ret
    exact ⟨rfl, h1.below k1⟩
  have hlong' : ¬ (500 : Int) < (path.size : Int) := by omega
  have hgr := ver_grown (num := 1) h1 HR.out HOK.out (by omega)
  clear h1
  go_wp2_with fail
  refine hgr.mono ?_
  rintro e w2 hQ
  clear hgr
  unfold GrownV at hQ
  obtain ⟨s, mk, ms, L, v, vl, AK, FK, AS, FS, GK, GS, tK, tS, ks, rfl, hE, hE2, hvn, hV, r1, r2, r3, r4, h2, k2⟩ := hQ
  have k2 := k1.trans k2
  have hg := grow_grown (ts.map ofT)
  generalize (growT (ts.map ofT)).1 = f at hE hE2 hg
  have h0 : f 0 = none := hg.low (by decide)
  have hpos : ∀ y ∈ ks, 0 ≤ y.node := fun y hy => by have := (hg.dom _ _ (hE2.mem y hy)).1; omega
  have hks8 : ks.length ≤ 8 := by
    have := nodup_le 8 256 (ks.map KidD.node) hE2.nodup (fun x hx => by
      obtain ⟨y, hy, rfl⟩ := List.mem_map.1 hx
      obtain ⟨h1, o, ho, h2⟩ := hg.dom y.node _ (hE2.mem y hy)
      obtain ⟨t, ht, rfl⟩ := List.mem_map.1 ho
      have h3 : 256 + t.node % 8 = y.node := h2
      omega)
    simpa using this
  have hL8 : L.length ≤ 8 := by rw [(enumk_perm hE hE2).length_eq]; exact hks8
  have hB := base_of hV hE2 hpos
  have hT8 : tK.size ≤ 8 := Nat.le_trans hV.zk hks8
  obtain ⟨a, er, hA⟩ := findA_ex hE path
  obtain ⟨N, hI, hN⟩ := step_new list hB hA h0
  have HN := Lib.hid hN
  have HTR := Lib.hid hV.k.rep
  have HVK := Lib.hid (And.intro hV.ks hV.kg)
  clear hN
  have HS := Lib.hid (And.intro hB (And.intro hks8 (And.intro hT8 hI)))
  have HF := Lib.hid (And.intro hA (And.intro hE (And.intro hE2 (And.intro hL8 (And.intro hks8 hvn)))))
  obtain ⟨lao, lcap, rfl, _⟩ := (h2.pull 3).poolArg (v := vl) (ks := L) (by simp)
  clear hE hE2 hg h0 hpos hks8 hL8 hB hT8 hA hI hV r1 r2 r3 r4 k1 hvn
  simp only [aggV]
  have h3 := h2.alloc (.cells #[.int .i64 v.n, .int .i64 v.ks, .int .i64 v.kg, .int .i64 v.ss, .int .i64 v.sg] 58)
  have k3 := k2.alloc (.cells #[.int .i64 v.n, .int .i64 v.ks, .int .i64 v.kg, .int .i64 v.ss, .int .i64 v.sg] 58)
  clear h2 k2
  go_upto_region 5 with (fail)
  generalize World.alloc _ _ = w3 at h3 k3 ⊢
  generalize w2.heap.size = V at h3 ⊢
  have v0 := (h3).cell 0
  have v1 := (h3).cell 1
  have v2 := (h3).cell 2
  have v3 := (h3).cell 3
  have v4 := (h3).cell 4
  simp at v0 v1 v2 v3 v4
  have hnw := find_new (v := v) (list := list) (path := path) HT.out (h3.pull 5)
  unfold aggV at hnw
  clear h3
  go_wp2_with fail
  refine hnw.mono ?_
  rintro e w4 ⟨fb, rfl, h4, k4⟩
  clear hnw
  have k4 := k3.trans k4
  clear k3 v0 v1 v2 v3 v4
  have hl0 := newFD_loads v list path
  have hI0 := HS.out.2.2.2
  generalize newFD v list path = D0 at h4 hl0 hI0
  have HI0 := Lib.hid hI0
  have HL0 := Lib.hid hl0
  have HB := Lib.hid HS.out.1
  have HLT := Lib.hid (And.intro HS.out.2.1 HS.out.2.2.1)
  have HER := Lib.hid (show er ≠ 11 from by
    rcases HN.out with ⟨_, h, _⟩ | ⟨_, _, _, h | h⟩ <;> omega)
  clear hI0 hl0 HS
  go_wp2_with fail
  go_loopw [14] (fun iv wr => ∃ (i : Nat) (D' : FindD), iv = .int .i64 i ∧ i ≤ 90 ∧ Hid (StepI f ks AK tK list v N a er D') ∧ Hid (D'.loads = i) ∧ Sat wr (findP fb D' :: oldH W :: own V (.cells #[.int .i64 v.n, .int .i64 v.ks, .int .i64 v.kg, .int .i64 v.ss, .int .i64 v.sg] 58 (0, 0)) :: own s (.cells (stoC mk ms) 80 (0, 0)) :: mapK mk 2000 AK FK :: mapS ms 2000 AS FS :: poolP fK [(.slice lao L.length lcap, L)] :: []) ∧ Kp W wr) (fun iv _ => 100 - (intOf iv).toNat)
  case atStart => exact ⟨0, D0, rfl, by omega, HI0, Lib.hid (by rw [HL0.out]; rfl), h4, k4⟩
  case round =>
    clear h4 k4
    obtain ⟨i, D', rfl, hi, HI', HLO, h5, k5⟩ := hrel
    have hwa := find_want h5
    have hi1 : (i : Int) ≤ 90 := by omega
    have hi0 : (0 : Int) ≤ (i : Int) := by omega
    have hwi : IntKind.i64.wrap ((i : Int) + 1) = (i : Int) + 1 := by rw [IntWalk.i64_in _ (by omega)]
    clear h5
    rcases moreF_iff D' with ⟨hm, hne⟩ | ⟨hm, hno⟩
    · rw [hm] at hwa
      obtain ⟨b1, b2, b3, sl, g1, g2, g3, g4⟩ := step_fin HB.out HLT.out.1 HLT.out.2 HI'.out hne
      have hl0 := HI'.out.l0
      have hlo := HLO.out
      have hi2 : i ≤ 80 := by omega
      have G1 := Lib.hid g1
      have G2 := Lib.hid g2
      have G3 := Lib.hid g3
      have G4 := Lib.hid (show (giveF sl.k sl.lh sl.rh D').loads = ((i + 1 : Nat) : Int) by rw [g4, hlo]; push_cast; rfl)
      have BB := Lib.hid (And.intro b2 (And.intro b3 (And.intro hl0 (show D'.loads ≤ 1000 by omega))))
      have HNE := Lib.hid hne
      clear b1 b2 b3 g1 g2 g3 g4 hl0 hlo hm hne
      go_wp2_with fail
      refine hwa.mono ?_
      rintro x w6 ⟨rfl, h6, k6⟩
      clear hwa
      have h7 := h6.alloc (.cells #[.int .i64 D'.want.s, .int .i64 D'.want.g] 56)
      have k7 := (k5.trans k6).alloc (.cells #[.int .i64 D'.want.s, .int .i64 D'.want.g] 56)
      have hya := find_answer_yet (h7.pull 1) HNE.out
      clear h6 k5 k6 h7
      go_wp2_with fail
      refine hya.mono ?_
      rintro x w8 ⟨rfl, h8, k8⟩
      clear hya
      have hsm := ans_same (e := 11) (ver := 0) (node := 0) ((h8.tNil fK 73 3).tNil fK 73 3) (by simp)
      have k8 := k7.trans k8
      clear h8 k7
      go_wp2_with fail
      refine hsm.mono ?_
      rintro x w9 ⟨rfl, h9, k9⟩
      clear hsm
      have k9 := k8.trans k9
      have h10 := h9.tail.tail
      clear h9 k8
      generalize w6.heap.size = B at h10 ⊢
      go_upto_region 16 with (fail)
      have b0 := (h10.pull 1).cell 0
      have b1 := (h10.pull 1).cell 1
      simp at b0 b1
      have s0 := (h10.pull 4).cell 0
      simp [stoC] at s0
      have hbl := (h10.pull 1).lt
      have hsl := (h10.pull 4).lt
      have hL1 := mapK_load ((h10.pull 5).drew) G1.out
      have hL2 := mapK_load ((((h10.pull 5).alloc (.cells #[.int .i64 0, .string ⟨#[]⟩, .int .i64 0, .bool false, .int .i64 0, .int .i64 0, .int .i64 0, .int .i64 0, .int .i64 0] 75)).swap).drew) G1.out
      go_cut [17, 18] from 47 to 123 (fun nv ov wx => ∃ Q : Nat, nv = .pointer (some ⟨Q, 0, none⟩) ∧ ov = .bool true ∧ Sat wx (own Q (.cells (nodC sl.k sl.v sl.lh sl.rh sl.hi) 75 (0, 0)) :: mapK mk 2000 AK FK :: findP fb D' :: own B (.cells #[.int .i64 D'.want.s, .int .i64 D'.want.g] 56 (0, 0)) :: oldH W :: own V (.cells #[.int .i64 v.n, .int .i64 v.ks, .int .i64 v.kg, .int .i64 v.ss, .int .i64 v.sg] 58 (0, 0)) :: own s (.cells (stoC mk ms) 80 (0, 0)) :: mapS ms 2000 AS FS :: poolP fK [(.slice lao L.length lcap, L)] :: []) ∧ Kp W wx)
      case first =>
        go_region_with ((first | (go_at_call 40; (with_reducible refine hL1.mono ?_); rintro x w11 ⟨rfl, h11, k11⟩) | (go_at_call 40; (with_reducible refine hL2.mono ?_); rintro x w11 ⟨rfl, h11, k11⟩; have q0 := (h11.pull 1).cell 0; have q1 := (h11.pull 1).cell 1; have q2 := (h11.pull 1).cell 2; have q3 := (h11.pull 1).cell 3; have q4 := (h11.pull 1).cell 4; have q5 := (h11.pull 1).cell 5; have q6 := (h11.pull 1).cell 6; have q7 := (h11.pull 1).cell 7; have q8 := (h11.pull 1).cell 8; have qf0 := (h11.pull 1).free 0; have qf1 := (h11.pull 1).free 1; have qf2 := (h11.pull 1).free 2; have qf3 := (h11.pull 1).free 3; have qf4 := (h11.pull 1).free 4; have qf5 := (h11.pull 1).free 5; have qf6 := (h11.pull 1).free 6; have qf7 := (h11.pull 1).free 7; have qf8 := (h11.pull 1).free 8; simp at q0 q1 q2 q3 q4 q5 q6 q7 q8; have qf0 := (h11.pull 1).free 0; have qf1 := (h11.pull 1).free 1; have qf2 := (h11.pull 1).free 2; have qf3 := (h11.pull 1).free 3; have qf4 := (h11.pull 1).free 4; have qf5 := (h11.pull 1).free 5; have qf6 := (h11.pull 1).free 6; have qf7 := (h11.pull 1).free 7; have qf8 := (h11.pull 1).free 8)))
        all_goals
          go_wp2_with fail
          go_meet
          case rel =>
            first
            | (have hq := qf8
               exact ⟨_, rfl, rfl, load2 h11, Kp.putCells [.int .i64 sl.k.up, .string sl.k.name, .int .i64 sl.k.node, .bool sl.v, .int .i64 sl.lh.s, .int .i64 sl.lh.g, .int .i64 sl.rh.s, .int .i64 sl.rh.g, .int .i64 sl.hi] 0 (((k9.alloc _).drew).trans k11)⟩)
            | exact ⟨_, rfl, rfl, load1 h11, (k9.drew.trans k11).alloc _⟩
      case rest =>
        clear hL1 hL2 b0 b1 s0 hbl hsl h10 k9
        obtain ⟨Q, rfl, rfl, h11, k11⟩ := hcut
        have q0 := (h11).cell 0
        have q1 := (h11).cell 1
        have q2 := (h11).cell 2
        have q3 := (h11).cell 3
        have q4 := (h11).cell 4
        have q5 := (h11).cell 5
        have q6 := (h11).cell 6
        have q7 := (h11).cell 7
        have q8 := (h11).cell 8
        simp [nodC] at q0 q1 q2 q3 q4 q5 q6 q7 q8
        by_cases hat : (i : Int) < at' % 12
        · have hgi := find_give (k := sl.k) (b := sl.v) (lh := sl.lh) (rh := sl.rh) (hi := sl.hi) (h11.pull 2) HNE.out G2.out BB.out.1 BB.out.2.1 BB.out.2.2.1 BB.out.2.2.2
          unfold nodC at hgi
          clear h11
          go_wp2_with fail
          refine hgi.mono ?_
          rintro x w12 ⟨rfl, h12, k12⟩
          go_wp2_with fail
          go_roundw
          case rel => exact ⟨i + 1, giveF sl.k sl.lh sl.rh D', by go_num, by omega, G3, G4, fstO h12, k11.trans k12⟩
          case measure => simp [intOf]; omega
        · have hgi := find_give_stale (k := ⟨0, ⟨#[]⟩, 0⟩) (b := false) (lh := ⟨0, 0⟩) (rh := ⟨0, 0⟩) (hi := 0) (h11.pull 2) HNE.out BB.out.2.2.1 BB.out.2.2.2
          unfold nodC at hgi
          dsimp only at hgi
          clear h11
          go_wp2_with fail
          refine hgi.mono ?_
          rintro x w12 ⟨rfl, h12, k12⟩
          clear hgi
          have k12 := k11.trans k12
          have e1 : (staleF { D' with loads := D'.loads + 1 }).next = .no := rfl
          have e2 : (staleF { D' with loads := D'.loads + 1 }).want = Hd.nil := rfl
          have e3 : (staleF { D' with loads := D'.loads + 1 }).e = 11 := rfl
          have e4 : (staleF { D' with loads := D'.loads + 1 }).ver = 0 := rfl
          have e5 : (staleF { D' with loads := D'.loads + 1 }).node = 0 := rfl
          have e6 : (staleF { D' with loads := D'.loads + 1 }).kids = [] := rfl
          have e7 : (staleF { D' with loads := D'.loads + 1 }).loads = (i : Int) + 1 := by show D'.loads + 1 = _; rw [HLO.out]
          generalize staleF { D' with loads := D'.loads + 1 } = D2 at h12 e1 e2 e3 e4 e5 e6 e7
          have HE := Lib.hid (And.intro e1 (And.intro e2 (And.intro e3 (And.intro e4 (And.intro e5 (And.intro e6 e7))))))
          clear e1 e2 e3 e4 e5 e6 e7 k11
          have hwa := find_want_no h12 HE.out.1
          rw [HE.out.2.1] at hwa
          simp only [Hd.nil] at hwa
          clear h12
          go_wp2_with fail
          refine hwa.mono ?_
          rintro x w13 ⟨rfl, h13, k13⟩
          clear hwa
          have h14 := h13.alloc (.cells #[.int .i64 0, .int .i64 0] 56)
          have k14 := (k12.trans k13).alloc (.cells #[.int .i64 0, .int .i64 0] 56)
          have hgn := find_give_none (k := sl.k) (b := sl.v) (ok := true) (lh := sl.lh) (rh := sl.rh) (hi := sl.hi) (h14.pull 1) HE.out.1
          unfold nodC at hgn
          clear q0 q1 q2 q3 q4 q5 q6 q7 q8
          have q0 := (h14.pull 2).cell 0
          have q1 := (h14.pull 2).cell 1
          have q2 := (h14.pull 2).cell 2
          have q3 := (h14.pull 2).cell 3
          have q4 := (h14.pull 2).cell 4
          have q5 := (h14.pull 2).cell 5
          have q6 := (h14.pull 2).cell 6
          have q7 := (h14.pull 2).cell 7
          have q8 := (h14.pull 2).cell 8
          simp [nodC] at q0 q1 q2 q3 q4 q5 q6 q7 q8
          clear h13 k12 k13 h14
          go_wp2_with fail
          refine hgn.mono ?_
          rintro x w15 ⟨rfl, h15, k15⟩
          clear hgn
          have k15 := k14.trans k15
          have han := find_answer h15 HE.out.1 (by rw [HE.out.2.2.2.2.2.1]; simp)
          rw [HE.out.2.2.1, HE.out.2.2.2.1, HE.out.2.2.2.2.1, HE.out.2.2.2.2.2.1] at han
          clear h15 k14 q0 q1 q2 q3 q4 q5 q6 q7 q8
          go_wp2_with fail
          refine han.mono ?_
          rintro x w16 ⟨ko, kn, kc, rfl, h16, k16⟩
          clear han
          have k16 := k15.trans k16
          have hsm := ans_same (e := 11) (ver := 0) (node := 0) ((h16.tNil fK 73 3).swap) (by simp)
          clear h16 k15
          go_wp2_with fail
          refine hsm.mono ?_
          rintro x w17 ⟨rfl, h17, k17⟩
          clear hsm
          have k17 := k16.trans k17
          have hlo := find_loads (h17.pull 2)
          rw [HE.out.2.2.2.2.2.2] at hlo
          clear h17 k16
          go_wp2_with fail
          refine hlo.mono ?_
          rintro x w18 ⟨rfl, h18, k18⟩
          clear hlo
          go_wp2_with fail
          exact bodyPost_ret (v := .bool true) (by simp [results, Tryz.results6, go_sem]) rfl ⟨rfl, (h18.pull 7).below (k17.trans k18)⟩
    · rw [hm] at hwa
      have hD := HI'.out.end hno
      rw [hD.want] at hwa
      simp only [Hd.nil] at hwa
      have HD := Lib.hid hD
      have HNO := Lib.hid hno
      clear hm hno hD
      go_wp2_with fail
      refine hwa.mono ?_
      rintro x w6 ⟨rfl, h6, k6⟩
      clear hwa
      have k6 := k5.trans k6
      have h7 := h6.alloc (.cells #[.int .i64 0, .int .i64 0] 56)
      have k7 := k6.alloc (.cells #[.int .i64 0, .int .i64 0] 56)
      have han := find_answer (h7.pull 1) HNO.out (by rw [HD.out.ans]; exact Nat.le_trans (kidsA_len _ _ _ _) (Nat.le_trans HF.out.2.2.2.2.1 (by decide)))
      rw [HD.out.er] at han
      have hne1 : (er != 11) = true := by simpa using HER.out
      have hfe := fun (e ver node : Int) (ko : Option Addr) (kn kc : Nat) (W : World) => field_ansE e ver node ko kn kc W
      clear h6 k6 h7 k5
      go_wp2_with fail
      refine han.mono ?_
      rintro x w8 ⟨ko, kn, kc, rfl, h8, k8⟩
      clear han
      have k8 := k7.trans k8
      have hlo := find_loads (h8.pull 1)
      rw [HLO.out] at hlo
      clear h8 k7
      go_wp2_with fail
      refine hlo.mono ?_
      rintro x w9 ⟨rfl, h9, k9⟩
      clear hlo
      go_wp2_with fail
      exact bodyPost_ret (v := .bool true) (by simp [results, Tryz.results6, go_sem]) rfl ⟨rfl, (h9.pull 3).below (k8.trans k9)⟩

end Go.Proofs.YtddglbjhhnipgaaGreatDoor

import Derived.Test.YtddglbjhhnipgaaGreatDoorIT
import Derived.Test.YtddglbjhhnipgaaGreatDoorIU
namespace Go.Proofs.YtddglbjhhnipgaaGreatDoor
open Go Go.RowKit
set_option linter.unusedVariables false
set_option linter.unusedSimpArgs false

theorem ftwoO {w : World} {l : List HProp} {F G O V S K : HProp} (h : Sat w (G :: O :: F :: V :: S :: K :: l)) : Sat w (F :: G :: S :: K :: O :: V :: l) := (((h.pull 1).push 5).pull 2).push 5 |> fun h => (h.pull 1)
theorem ftwoF {w : World} {l : List HProp} {F Q K B G S O V : HProp} (h : Sat w (F :: Q :: K :: B :: G :: S :: O :: V :: l)) : Sat w (F :: G :: S :: K :: O :: V :: l) := ((((h.pull 1).tail.pull 2).tail).pull 1).push 3
theorem ftwoG {w : World} {l : List HProp} {F Q K B G S O V : HProp} (h : Sat w (G :: Q :: K :: B :: F :: S :: O :: V :: l)) : Sat w (F :: G :: S :: K :: O :: V :: l) := (((((h.pull 1).tail.pull 2).tail).pull 1).push 3).swap
set_option maxRecDepth 100000 in
set_option maxHeartbeats 4000000 in
theorem finderTwo_walk (ao : Option Addr) (n cap : Nat) (ts : List TinyD) (pa pb : ByteArray) (tao : Option Addr) (tn tcap : Nat) (xs : List Int) (W : World) (hr : ArgRow W fT ao n cap ts) (hok : ∀ t ∈ ts, TinyOk t) (htr : ArgRow W fU tao tn tcap xs) (hxs : ∀ x ∈ xs, 0 ≤ x ∧ x < 256) (hT : Lib.Utf8Tabs (validS_ren.g 3) (validS_ren.g 4) W) :
    LawCalls Tryz.prog 8 #[.slice ao n cap, .string pa, .string pb, .slice tao tn tcap] W := by
  have H0 := Sat.start W
  have hle := hr.le
  have hsm := hr.small
  unfold maxLen at hsm
  have HL := Lib.hid hr.len
  have HT := Lib.hid hT
  have HR := Lib.hid hr
  have HOK := Lib.hid hok
  have HTR := Lib.hid htr
  have HXS := Lib.hid hxs
  have htl := htr.le
  have hts := htr.small
  unfold maxLen at hts
  clear hT hr hok htr hxs
  go_enter Tryz.func8, Tryz.ntmps8
  go_wp2_with fail
  refine (awake13 HT.out H0).mono ?_
  rintro e w1 ⟨rfl, h1, k1⟩
  clear H0
  by_cases hmost : 30 < n
  · have hmost' : (30 : Int) < (n : Int) := by omega
    clear hmost
    go_wp2_with fail
    go_ret
    exact ⟨rfl, h1.below k1⟩
  have hmost' : ¬ (30 : Int) < (n : Int) := by omega
  by_cases hla : 500 < pa.size
  · have hla' : (500 : Int) < (pa.size : Int) := by omega
    clear hla
    go_wp2_with fail
    go_ret
    exact ⟨rfl, h1.below k1⟩
  have hla' : ¬ (500 : Int) < (pa.size : Int) := by omega
  by_cases hlb : 500 < pb.size
  · have hlb' : (500 : Int) < (pb.size : Int) := by omega
    clear hlb
    go_wp2_with fail
    go_ret
    exact ⟨rfl, h1.below k1⟩
  have hlb' : ¬ (500 : Int) < (pb.size : Int) := by omega
  by_cases hlt : 60 < tn
  · have hlt' : (60 : Int) < (tn : Int) := by omega
    clear hlt
    go_wp2_with fail
    go_ret
    exact ⟨rfl, h1.below k1⟩
  have hlt' : ¬ (60 : Int) < (tn : Int) := by omega
  have hgr := ver_grown (num := 2) h1 HR.out HOK.out (by omega)
  clear h1
  go_wp2_with fail
  refine hgr.mono ?_
  rintro e w2 hQ
  clear hgr
  unfold GrownV at hQ
  obtain ⟨s, mk, ms, L, v, vl, AK, FK, AS, FS, GK, GS, tK, tS, ks, rfl, hE, hE2, hvn, hV, r1, r2, r3, r4, h2, k2⟩ := hQ
  have k2 := k1.trans k2
  have hg := grow_grown (ts.map ofT)
  generalize (growT (ts.map ofT)).1 = f at hE hE2 hg
  have h0 : f 0 = none := hg.low (by decide)
  have hpos : ∀ y ∈ ks, 0 ≤ y.node := fun y hy => by have := (hg.dom _ _ (hE2.mem y hy)).1; omega
  have hks8 : ks.length ≤ 8 := by
    have := nodup_le 8 256 (ks.map KidD.node) hE2.nodup (fun x hx => by
      obtain ⟨y, hy, rfl⟩ := List.mem_map.1 hx
      obtain ⟨h1, o, ho, h2⟩ := hg.dom y.node _ (hE2.mem y hy)
      obtain ⟨t, ht, rfl⟩ := List.mem_map.1 ho
      have h3 : 256 + t.node % 8 = y.node := h2
      omega)
    simpa using this
  have hL8 : L.length ≤ 8 := by rw [(enumk_perm hE hE2).length_eq]; exact hks8
  have hB := base_of hV hE2 hpos
  have hT8 : tK.size ≤ 8 := Nat.le_trans hV.zk hks8
  obtain ⟨aa, ea, hAa⟩ := findA_ex hE pa
  obtain ⟨ab, eb, hAb⟩ := findA_ex hE pb
  obtain ⟨Na, hIa, _⟩ := step_new true hB hAa h0
  obtain ⟨Nb, hIb, _⟩ := step_new false hB hAb h0
  have HB := Lib.hid hB
  have HLT := Lib.hid (And.intro hks8 hT8)
  have HIA := Lib.hid hIa
  have HIB := Lib.hid hIb
  have HF := Lib.hid (And.intro hAa (And.intro hAb (And.intro hE (And.intro hE2 (And.intro hL8 (And.intro hks8 hvn))))))
  obtain ⟨lao, lcap, rfl, _⟩ := (h2.pull 3).poolArg (v := vl) (ks := L) (by simp)
  clear hE hE2 hg h0 hpos hks8 hL8 hB hT8 hAa hAb hIa hIb hV r1 r2 r3 r4 k1 hvn
  simp only [aggV]
  have h3 := h2.alloc (.cells #[.int .i64 v.n, .int .i64 v.ks, .int .i64 v.kg, .int .i64 v.ss, .int .i64 v.sg] 58)
  have k3 := k2.alloc (.cells #[.int .i64 v.n, .int .i64 v.ks, .int .i64 v.kg, .int .i64 v.ss, .int .i64 v.sg] 58)
  clear h2 k2
  go_upto_region 5 with (fail)
  generalize World.alloc _ _ = w3 at h3 k3 ⊢
  generalize w2.heap.size = V at h3 ⊢
  have v0 := (h3).cell 0
  have v1 := (h3).cell 1
  have v2 := (h3).cell 2
  have v3 := (h3).cell 3
  have v4 := (h3).cell 4
  simp at v0 v1 v2 v3 v4
  have hnw := fun (list : Bool) (path : ByteArray) (w : World) (l : List HProp) (hs : Sat w (oldH W :: l)) => find_new (v := v) (list := list) (path := path) HT.out hs
  unfold aggV at hnw
  have hn1 := hnw true pa _ _ (h3.pull 5)
  have HNW := Lib.hid hnw
  clear hnw
  clear h3
  go_wp2_with fail
  refine hn1.mono ?_
  rintro e w4 ⟨fb, rfl, h4, k4⟩
  clear hn1
  have k4 := k3.trans k4
  clear k3 v0 v1 v2 v3 v4
  have v0 := (h4.pull 2).cell 0
  have v1 := (h4.pull 2).cell 1
  have v2 := (h4.pull 2).cell 2
  have v3 := (h4.pull 2).cell 3
  have v4 := (h4.pull 2).cell 4
  simp at v0 v1 v2 v3 v4
  have hn2 := HNW.out false pb _ _ (h4.pull 1)
  clear h4
  go_wp2_with fail
  refine hn2.mono ?_
  rintro e w5 ⟨gb, rfl, h5, k5⟩
  clear hn2
  have k5 := k4.trans k5
  clear k4 v0 v1 v2 v3 v4 HNW
  generalize newFD v true pa = Df0 at h5 HIA
  generalize newFD v false pb = Dg0 at h5 HIB
  have h5 : Sat w5 (findP fb Df0 :: findP gb Dg0 :: own s (.cells (stoC mk ms) 80 (0, 0)) :: mapK mk 2000 AK FK :: oldH W :: own V (.cells #[.int .i64 v.n, .int .i64 v.ks, .int .i64 v.kg, .int .i64 v.ss, .int .i64 v.sg] 58 (0, 0)) :: mapS ms 2000 AS FS :: poolP fK [(.slice lao L.length lcap, L)] :: []) := ftwoO h5
  have hts' : (tn : Int) ≤ 60 := by omega
  go_wp2_with fail
  go_loopw [15] (fun iv wr => ∃ (i : Nat) (Df Dg : FindD), iv = .int .i64 i ∧ i ≤ tn ∧ Hid (StepI f ks AK tK true v Na aa ea Df) ∧ Hid (StepI f ks AK tK false v Nb ab eb Dg) ∧ Sat wr (findP fb Df :: findP gb Dg :: own s (.cells (stoC mk ms) 80 (0, 0)) :: mapK mk 2000 AK FK :: oldH W :: own V (.cells #[.int .i64 v.n, .int .i64 v.ks, .int .i64 v.kg, .int .i64 v.ss, .int .i64 v.sg] 58 (0, 0)) :: mapS ms 2000 AS FS :: poolP fK [(.slice lao L.length lcap, L)] :: []) ∧ Kp W wr) (fun iv _ => tn - (intOf iv).toNat)
  case atStart => exact ⟨0, Df0, Dg0, rfl, by omega, HIA, HIB, h5, k5⟩
  case round =>
    clear h5 k5 HIA HIB
    obtain ⟨i, Df, Dg, rfl, hi, HIf, HIg, h6, k6⟩ := hrel
    have hi0 : (0 : Int) ≤ (i : Int) := by omega
    by_cases hlt : i < tn
    case neg =>
      obtain rfl : tn = i := by omega
      have hru := run_ok (AS := []) (FS := []) ((h6.pull 1).push 3) HB.out HLT.out.1 HLT.out.2 HIf.out
      clear h6
      go_wp2_with fail
      refine hru.mono ?_
      rintro z w7 ⟨rfl, Df', hDf, h7, k7⟩
      clear hru
      have hru := run_ok (AS := []) (FS := []) (((h7.pull 3).pull 1).push 3) HB.out HLT.out.1 HLT.out.2 HIg.out
      have k7 := k6.trans k7
      have HDf := Lib.hid hDf
      clear h7 k6 hDf
      go_wp2_with fail
      refine hru.mono ?_
      rintro z w8 ⟨rfl, Dg', hDg, h8, k8⟩
      clear hru
      have k8 := k7.trans k8
      have HDg := Lib.hid hDg
      have han := find_answer (h8.pull 3) HDf.out.next (by rw [HDf.out.ans]; exact Nat.le_trans (kidsA_len _ _ _ _) (Nat.le_trans HLT.out.1 (by decide)))
      rw [HDf.out.er, HDf.out.ver, HDf.out.node, HDf.out.ans, HF.out.2.2.2.2.2.2, kidsA_same HF.out.2.2.2.1 HF.out.2.2.1] at han
      clear h8 k7 hDg
      go_wp2_with fail
      refine han.mono ?_
      rintro z w9 ⟨ko, kn, kc, rfl, h9, k9⟩
      clear han
      have k9 := k8.trans k9
      have hra := ref_answerV (num := 2) (list := true) (path := pa) (h9.pull 8) HF.out.2.2.1 (Nat.le_trans HF.out.2.2.2.2.1 (by decide))
      clear h9 k8
      go_wp2_with fail
      refine hra.mono ?_
      rintro z w10 ⟨a', e', v', hA', rfl, h10, k10⟩
      clear hra
      obtain ⟨rfl, rfl⟩ := hA'.uniq HF.out.1
      have k10 := k9.trans k10
      have hsa := ans_same (e := e') (ver := 2) (node := a') (h10.pull 2) (Nat.le_trans (kidsA_len _ _ _ _) (Nat.le_trans HF.out.2.2.2.2.1 (by decide)))
      clear h10 k9 hA'
      go_wp2_with fail
      refine hsa.mono ?_
      rintro z w11 ⟨rfl, h11, k11⟩
      clear hsa
      have k11 := k10.trans k11
      have han := find_answer (h11.pull 4) HDg.out.next (by rw [HDg.out.ans]; exact Nat.le_trans (kidsA_len _ _ _ _) (Nat.le_trans HLT.out.1 (by decide)))
      rw [HDg.out.er, HDg.out.ver, HDg.out.node, HDg.out.ans, HF.out.2.2.2.2.2.2, kidsA_same HF.out.2.2.2.1 HF.out.2.2.1] at han
      clear h11 k10
      go_wp2_with fail
      refine han.mono ?_
      rintro z w12 ⟨ko2, kn2, kc2, rfl, h12, k12⟩
      clear han
      have k12 := k11.trans k12
      have hra := ref_answerV (num := 2) (list := false) (path := pb) (h12.pull 4) HF.out.2.2.1 (Nat.le_trans HF.out.2.2.2.2.1 (by decide))
      clear h12 k11
      go_wp2_with fail
      refine hra.mono ?_
      rintro z w13 ⟨a2, e2, v2, hA2, rfl, h13, k13⟩
      clear hra
      obtain ⟨rfl, rfl⟩ := hA2.uniq HF.out.2.1
      have k13 := k12.trans k13
      have hsa := ans_same (e := e2) (ver := 2) (node := a2) (h13.pull 2) (Nat.le_trans (kidsA_len _ _ _ _) (Nat.le_trans HF.out.2.2.2.2.1 (by decide)))
      clear h13 k12 hA2
      go_wp2_with fail
      refine hsa.mono ?_
      rintro z w14 ⟨rfl, h14, k14⟩
      clear hsa
      go_wp2_with fail
      go_ret
      exact ⟨rfl, (h14.pull 9).below (k13.trans k14)⟩
    have har := HTR.out.old (h6.pull 4)
    obtain ⟨x, hx⟩ : ∃ x, xs[i]? = some x := ⟨_, List.getElem?_eq_getElem (by rw [HTR.out.len]; exact hlt)⟩
    obtain ⟨tb, toff, rfl⟩ := har.some hlt
    have x0 := har.cell (size := 1) (fun _ => rfl) 0 rfl hx rfl
    have hxr := HXS.out x (List.mem_of_getElem? hx)
    have hx0 := hxr.1
    have hx1 := hxr.2
    have hi1 : (i : Int) < (tn : Int) := by omega
    have hi2 : (i : Int) ≤ 60 := by omega
    simp only [Nat.mul_one, Nat.add_zero] at x0
    clear har hx hxr
    by_cases hp : x % 2 = 1
    · have hpb : (x % 2 == 1) = true := by simpa using hp
      clear hp
      have hwa := find_want (h6.pull 1)
      clear h6
      rcases moreF_iff Dg with ⟨hm, hne⟩ | ⟨hm, hno⟩
      · rw [hm] at hwa
        obtain ⟨b1, b2, b3, sl, g1, g2, g3, g4⟩ := step_fin HB.out HLT.out.1 HLT.out.2 HIg.out hne
        have G1 := Lib.hid g1
        have G2 := Lib.hid g2
        have G3 := Lib.hid g3
        have BB := Lib.hid (And.intro b2 (And.intro b3 (And.intro HIg.out.l0 (show Dg.loads ≤ 1000 by omega))))
        have HNE := Lib.hid hne
        clear b1 b2 b3 g1 g2 g3 g4 hm hne
        go_wp2_with fail
        refine hwa.mono ?_
        rintro z w7 ⟨rfl, h7, k7⟩
        clear hwa
        have h8 := h7.alloc (.cells #[.int .i64 Dg.want.s, .int .i64 Dg.want.g] 56)
        have k8 := (k6.trans k7).alloc (.cells #[.int .i64 Dg.want.s, .int .i64 Dg.want.g] 56)
        clear h7 k6 k7 x0
        go_upto_region 17 with (fail)
        generalize World.alloc _ _ = w8 at h8 k8 ⊢
        generalize w7.heap.size = B at h8 ⊢
        have b0 := (h8).cell 0
        have b1 := (h8).cell 1
        simp at b0 b1
        have s0 := (h8.pull 3).cell 0
        simp [stoC] at s0
        have hbl := h8.lt
        have hsl := (h8.pull 3).lt
        have hL1 := mapK_load ((h8.pull 4).drew) G1.out
        have hL2 := mapK_load ((((h8.pull 4).alloc (.cells #[.int .i64 0, .string ⟨#[]⟩, .int .i64 0, .bool false, .int .i64 0, .int .i64 0, .int .i64 0, .int .i64 0, .int .i64 0] 75)).swap).drew) G1.out
        go_cut [19, 20] from 65 to 97 (fun nv ov wx => ∃ Q : Nat, nv = .pointer (some ⟨Q, 0, none⟩) ∧ ov = .bool true ∧ Sat wx (own Q (.cells (nodC sl.k sl.v sl.lh sl.rh sl.hi) 75 (0, 0)) :: mapK mk 2000 AK FK :: own B (.cells #[.int .i64 Dg.want.s, .int .i64 Dg.want.g] 56 (0, 0)) :: findP gb Dg :: findP fb Df :: own s (.cells (stoC mk ms) 80 (0, 0)) :: oldH W :: own V (.cells #[.int .i64 v.n, .int .i64 v.ks, .int .i64 v.kg, .int .i64 v.ss, .int .i64 v.sg] 58 (0, 0)) :: mapS ms 2000 AS FS :: poolP fK [(.slice lao L.length lcap, L)] :: []) ∧ Kp W wx)
        case first =>
          go_region_with ((first | (go_at_call 40; (with_reducible refine hL1.mono ?_); rintro z w11 ⟨rfl, h11, k11⟩) | (go_at_call 40; (with_reducible refine hL2.mono ?_); rintro z w11 ⟨rfl, h11, k11⟩; have q0 := (h11.pull 1).cell 0; have q1 := (h11.pull 1).cell 1; have q2 := (h11.pull 1).cell 2; have q3 := (h11.pull 1).cell 3; have q4 := (h11.pull 1).cell 4; have q5 := (h11.pull 1).cell 5; have q6 := (h11.pull 1).cell 6; have q7 := (h11.pull 1).cell 7; have q8 := (h11.pull 1).cell 8; have qf0 := (h11.pull 1).free 0; have qf1 := (h11.pull 1).free 1; have qf2 := (h11.pull 1).free 2; have qf3 := (h11.pull 1).free 3; have qf4 := (h11.pull 1).free 4; have qf5 := (h11.pull 1).free 5; have qf6 := (h11.pull 1).free 6; have qf7 := (h11.pull 1).free 7; have qf8 := (h11.pull 1).free 8; simp at q0 q1 q2 q3 q4 q5 q6 q7 q8; have qf0 := (h11.pull 1).free 0; have qf1 := (h11.pull 1).free 1; have qf2 := (h11.pull 1).free 2; have qf3 := (h11.pull 1).free 3; have qf4 := (h11.pull 1).free 4; have qf5 := (h11.pull 1).free 5; have qf6 := (h11.pull 1).free 6; have qf7 := (h11.pull 1).free 7; have qf8 := (h11.pull 1).free 8)))
          all_goals
            go_wp2_with fail
            go_meet
            case rel =>
              first
              | (have hq := qf8
                 exact ⟨_, rfl, rfl, load2 h11, Kp.putCells [.int .i64 sl.k.up, .string sl.k.name, .int .i64 sl.k.node, .bool sl.v, .int .i64 sl.lh.s, .int .i64 sl.lh.g, .int .i64 sl.rh.s, .int .i64 sl.rh.g, .int .i64 sl.hi] 0 (((k8.alloc _).drew).trans k11)⟩)
              | exact ⟨_, rfl, rfl, load1 h11, (k8.drew.trans k11).alloc _⟩
        case rest =>
          clear hL1 hL2 b0 b1 s0 hbl hsl h8 k8
          obtain ⟨Q, rfl, rfl, h11, k11⟩ := hcut
          have q0 := (h11).cell 0
          have q1 := (h11).cell 1
          have q2 := (h11).cell 2
          have q3 := (h11).cell 3
          have q4 := (h11).cell 4
          have q5 := (h11).cell 5
          have q6 := (h11).cell 6
          have q7 := (h11).cell 7
          have q8 := (h11).cell 8
          simp [nodC] at q0 q1 q2 q3 q4 q5 q6 q7 q8
          have hgi := find_give (k := sl.k) (b := sl.v) (lh := sl.lh) (rh := sl.rh) (hi := sl.hi) (h11.pull 3) HNE.out G2.out BB.out.1 BB.out.2.1 BB.out.2.2.1 BB.out.2.2.2
          unfold nodC at hgi
          clear h11
          go_wp2_with fail
          refine hgi.mono ?_
          rintro z w12 ⟨rfl, h12, k12⟩
          go_wp2_with fail
          go_roundw
          case rel => exact ⟨i + 1, Df, giveF sl.k sl.lh sl.rh Dg, by go_num, by omega, HIf, G3, ftwoG h12, k11.trans k12⟩
          case measure => simp [intOf]; omega
      · rw [hm] at hwa
        clear hm hno
        go_wp2_with fail
        refine hwa.mono ?_
        rintro z w7 ⟨rfl, h7, k7⟩
        clear hwa
        go_wp2_with fail
        go_roundw
        case rel => exact ⟨i + 1, Df, Dg, by go_num, by omega, HIf, HIg, (h7.alloc' _).swap, (k6.trans k7).alloc _⟩
        case measure => simp [intOf]; omega
    · have hpb : (x % 2 == 1) = false := by simpa using hp
      clear hp
      have hwa := find_want (h6.pull 0)
      clear h6
      rcases moreF_iff Df with ⟨hm, hne⟩ | ⟨hm, hno⟩
      · rw [hm] at hwa
        obtain ⟨b1, b2, b3, sl, g1, g2, g3, g4⟩ := step_fin HB.out HLT.out.1 HLT.out.2 HIf.out hne
        have G1 := Lib.hid g1
        have G2 := Lib.hid g2
        have G3 := Lib.hid g3
        have BB := Lib.hid (And.intro b2 (And.intro b3 (And.intro HIf.out.l0 (show Df.loads ≤ 1000 by omega))))
        have HNE := Lib.hid hne
        clear b1 b2 b3 g1 g2 g3 g4 hm hne
        go_wp2_with fail
        refine hwa.mono ?_
        rintro z w7 ⟨rfl, h7, k7⟩
        clear hwa
        have h8 := h7.alloc (.cells #[.int .i64 Df.want.s, .int .i64 Df.want.g] 56)
        have k8 := (k6.trans k7).alloc (.cells #[.int .i64 Df.want.s, .int .i64 Df.want.g] 56)
        clear h7 k6 k7 x0
        go_upto_region 17 with (fail)
        generalize World.alloc _ _ = w8 at h8 k8 ⊢
        generalize w7.heap.size = B at h8 ⊢
        have b0 := (h8).cell 0
        have b1 := (h8).cell 1
        simp at b0 b1
        have s0 := (h8.pull 3).cell 0
        simp [stoC] at s0
        have hbl := h8.lt
        have hsl := (h8.pull 3).lt
        have hL1 := mapK_load ((h8.pull 4).drew) G1.out
        have hL2 := mapK_load ((((h8.pull 4).alloc (.cells #[.int .i64 0, .string ⟨#[]⟩, .int .i64 0, .bool false, .int .i64 0, .int .i64 0, .int .i64 0, .int .i64 0, .int .i64 0] 75)).swap).drew) G1.out
        go_cut [19, 20] from 65 to 97 (fun nv ov wx => ∃ Q : Nat, nv = .pointer (some ⟨Q, 0, none⟩) ∧ ov = .bool true ∧ Sat wx (own Q (.cells (nodC sl.k sl.v sl.lh sl.rh sl.hi) 75 (0, 0)) :: mapK mk 2000 AK FK :: own B (.cells #[.int .i64 Df.want.s, .int .i64 Df.want.g] 56 (0, 0)) :: findP fb Df :: findP gb Dg :: own s (.cells (stoC mk ms) 80 (0, 0)) :: oldH W :: own V (.cells #[.int .i64 v.n, .int .i64 v.ks, .int .i64 v.kg, .int .i64 v.ss, .int .i64 v.sg] 58 (0, 0)) :: mapS ms 2000 AS FS :: poolP fK [(.slice lao L.length lcap, L)] :: []) ∧ Kp W wx)
        case first =>
          go_region_with ((first | (go_at_call 40; (with_reducible refine hL1.mono ?_); rintro z w11 ⟨rfl, h11, k11⟩) | (go_at_call 40; (with_reducible refine hL2.mono ?_); rintro z w11 ⟨rfl, h11, k11⟩; have q0 := (h11.pull 1).cell 0; have q1 := (h11.pull 1).cell 1; have q2 := (h11.pull 1).cell 2; have q3 := (h11.pull 1).cell 3; have q4 := (h11.pull 1).cell 4; have q5 := (h11.pull 1).cell 5; have q6 := (h11.pull 1).cell 6; have q7 := (h11.pull 1).cell 7; have q8 := (h11.pull 1).cell 8; have qf0 := (h11.pull 1).free 0; have qf1 := (h11.pull 1).free 1; have qf2 := (h11.pull 1).free 2; have qf3 := (h11.pull 1).free 3; have qf4 := (h11.pull 1).free 4; have qf5 := (h11.pull 1).free 5; have qf6 := (h11.pull 1).free 6; have qf7 := (h11.pull 1).free 7; have qf8 := (h11.pull 1).free 8; simp at q0 q1 q2 q3 q4 q5 q6 q7 q8; have qf0 := (h11.pull 1).free 0; have qf1 := (h11.pull 1).free 1; have qf2 := (h11.pull 1).free 2; have qf3 := (h11.pull 1).free 3; have qf4 := (h11.pull 1).free 4; have qf5 := (h11.pull 1).free 5; have qf6 := (h11.pull 1).free 6; have qf7 := (h11.pull 1).free 7; have qf8 := (h11.pull 1).free 8)))
          all_goals
            go_wp2_with fail
            go_meet
            case rel =>
              first
              | (have hq := qf8
                 exact ⟨_, rfl, rfl, load2 h11, Kp.putCells [.int .i64 sl.k.up, .string sl.k.name, .int .i64 sl.k.node, .bool sl.v, .int .i64 sl.lh.s, .int .i64 sl.lh.g, .int .i64 sl.rh.s, .int .i64 sl.rh.g, .int .i64 sl.hi] 0 (((k8.alloc _).drew).trans k11)⟩)
              | exact ⟨_, rfl, rfl, load1 h11, (k8.drew.trans k11).alloc _⟩
        case rest =>
          clear hL1 hL2 b0 b1 s0 hbl hsl h8 k8
          obtain ⟨Q, rfl, rfl, h11, k11⟩ := hcut
          have q0 := (h11).cell 0
          have q1 := (h11).cell 1
          have q2 := (h11).cell 2
          have q3 := (h11).cell 3
          have q4 := (h11).cell 4
          have q5 := (h11).cell 5
          have q6 := (h11).cell 6
          have q7 := (h11).cell 7
          have q8 := (h11).cell 8
          simp [nodC] at q0 q1 q2 q3 q4 q5 q6 q7 q8
          have hgi := find_give (k := sl.k) (b := sl.v) (lh := sl.lh) (rh := sl.rh) (hi := sl.hi) (h11.pull 3) HNE.out G2.out BB.out.1 BB.out.2.1 BB.out.2.2.1 BB.out.2.2.2
          unfold nodC at hgi
          clear h11
          go_wp2_with fail
          refine hgi.mono ?_
          rintro z w12 ⟨rfl, h12, k12⟩
          go_wp2_with fail
          go_roundw
          case rel => exact ⟨i + 1, giveF sl.k sl.lh sl.rh Df, Dg, by go_num, by omega, G3, HIg, ftwoF h12, k11.trans k12⟩
          case measure => simp [intOf]; omega
      · rw [hm] at hwa
        clear hm hno
        go_wp2_with fail
        refine hwa.mono ?_
        rintro z w7 ⟨rfl, h7, k7⟩
        clear hwa
        go_wp2_with fail
        go_roundw
        case rel => exact ⟨i + 1, Df, Dg, by go_num, by omega, HIf, HIg, h7.alloc' _, (k6.trans k7).alloc _⟩
        case measure => simp [intOf]; omega

end Go.Proofs.YtddglbjhhnipgaaGreatDoor

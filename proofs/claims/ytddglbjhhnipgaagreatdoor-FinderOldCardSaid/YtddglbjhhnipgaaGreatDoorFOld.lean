import Derived.Test.YtddglbjhhnipgaaGreatDoorIT
import Derived.Test.YtddglbjhhnipgaaGreatDoorIZ
import Derived.Deep.RegionHeld3
namespace Go.Proofs.YtddglbjhhnipgaaGreatDoor
open Go Go.RowKit
set_option linter.unusedVariables false
set_option linter.unusedSimpArgs false
set_option maxRecDepth 100000
set_option maxHeartbeats 8000000
theorem finderOld_walk (ao : Option Addr) (n cap : Nat) (ts : List TinyD) (mao : Option Addr) (m mcap : Nat) (us : List TinyD) (list : Bool) (path : ByteArray) (W : World) (hr : ArgRow W fT ao n cap ts) (hok : ∀ t ∈ ts, TinyOk t) (hmr : ArgRow W fT mao m mcap us) (hmok : ∀ t ∈ us, TinyOk t) (hT : Lib.Utf8Tabs (validS_ren.g 3) (validS_ren.g 4) W) :
   LawCalls Tryz.prog 7 #[.slice ao n cap, .slice mao m mcap, .bool list, .string path] W := by
 have H0 := Sat.start W
 have hle := hr.le
 have hsm := hr.small
 unfold maxLen at hsm
 have HL := Lib.hid hr.len
 have HT := Lib.hid hT
 have HR := Lib.hid hr
 have HOK := Lib.hid hok
 have HMR := Lib.hid hmr
 have HMOK := Lib.hid hmok
 have hml := hmr.le
 have hms := hmr.small
 unfold maxLen at hms
 clear hT hr hok hmr hmok
 go_enter Tryz.func7, Tryz.ntmps7
 go_wp2_with fail
 refine (awake13 HT.out H0).mono ?_
 rintro e w1 ⟨rfl, h1, k1⟩
 clear H0
 by_cases hmost : 30 < n
 · have hmost' : (30 : Int) < (n : Int) := by omega
   clear hmost
   go_wp2_with fail
   go_ret
   exact ⟨rfl, h1.below k1⟩
 have hmost' : ¬ (30 : Int) < (n : Int) := by omega
 by_cases hmm : 8 < m
 · have hmm' : (8 : Int) < (m : Int) := by omega
   clear hmm
   go_wp2_with fail
   go_ret
   exact ⟨rfl, h1.below k1⟩
 have hmm' : ¬ (8 : Int) < (m : Int) := by omega
 by_cases hlong : 500 < path.size
 · have hlong' : (500 : Int) < (path.size : Int) := by omega
   clear hlong
   go_wp2_with fail
   go_ret
   exact ⟨rfl, h1.below k1⟩
 have hlong' : ¬ (500 : Int) < (path.size : Int) := by omega
 have hgr := ver_grown (num := 5) h1 HR.out HOK.out (by omega)
 clear h1
 go_wp2_with fail
 refine hgr.mono ?_
 rintro e w2 hQ
 clear hgr
 unfold GrownV at hQ
 obtain ⟨s, mk, ms, L, v, vl, AK, FK, AS, FS, GK, GS, tK, tS, ks, rfl, hE, hE2, hvn, hV, r1, r2, r3, r4, h2, k2⟩ := hQ
 have k2 := k1.trans k2
 have hg := grow_grown (ts.map ofT)
 generalize (growT (ts.map ofT)).1 = f at hE hE2 hg
 have h0 : f 0 = none := hg.low (by decide)
 have hpos : ∀ y ∈ ks, 0 ≤ y.node := fun y hy => by have := (hg.dom _ _ (hE2.mem y hy)).1; omega
 have hks8 : ks.length ≤ 8 := by
   have := nodup_le 8 256 (ks.map KidD.node) hE2.nodup (fun x hx => by
     obtain ⟨y, hy, rfl⟩ := List.mem_map.1 hx
     obtain ⟨h1, o, ho, h2⟩ := hg.dom y.node _ (hE2.mem y hy)
     obtain ⟨t, ht, rfl⟩ := List.mem_map.1 ho
     have h3 : 256 + t.node % 8 = y.node := h2
     omega)
   simpa using this
 have hL8 : L.length ≤ 8 := by rw [(enumk_perm hE hE2).length_eq]; exact hks8
 have hB := base_of hV hE2 hpos
 have hT8 : tK.size ≤ 8 := Nat.le_trans hV.zk hks8
 obtain ⟨a, er, hA⟩ := findA_ex hE path
 obtain ⟨N, hI, hN⟩ := step_new list hB hA h0
 have HN := Lib.hid hN
 have HMI0 := Lib.hid (show MadeI 0 ks v AK FK AS FS GK GS tK tS from ⟨hV, hE2.nodup, by omega, by omega, by omega⟩)
 clear hN
 have HS := Lib.hid (And.intro hB (And.intro hks8 (And.intro hT8 hI)))
 have HF := Lib.hid (And.intro hA (And.intro hE (And.intro hE2 (And.intro hL8 (And.intro hks8 hvn)))))
 obtain ⟨lao, lcap, rfl, _⟩ := (h2.pull 3).poolArg (v := vl) (ks := L) (by simp)
 clear hE hE2 hg h0 hpos hks8 hL8 hB hT8 hA hI hV r1 r2 r3 r4 k1 hvn
 simp only [aggV]
 have h3 := h2.alloc (.cells #[.int .i64 v.n, .int .i64 v.ks, .int .i64 v.kg, .int .i64 v.ss, .int .i64 v.sg] 58)
 have k3 := k2.alloc (.cells #[.int .i64 v.n, .int .i64 v.ks, .int .i64 v.kg, .int .i64 v.ss, .int .i64 v.sg] 58)
 clear h2 k2
 go_upto_region 5 with (fail)
 generalize World.alloc _ _ = w3 at h3 k3 ⊢
 generalize w2.heap.size = V at h3 ⊢
 have v0 := (h3).cell 0
 have v1 := (h3).cell 1
 have v2 := (h3).cell 2
 have v3 := (h3).cell 3
 have v4 := (h3).cell 4
 simp at v0 v1 v2 v3 v4
 have hnw := find_new (v := v) (list := list) (path := path) HT.out (h3.pull 5)
 unfold aggV at hnw
 clear h3
 go_wp2_with fail
 refine hnw.mono ?_
 rintro e w4 ⟨fb, rfl, h4, k4⟩
 clear hnw
 have k4 := k3.trans k4
 clear k3 v0 v1 v2 v3 v4
 have hl0 := newFD_loads v list path
 have hI0 := HS.out.2.2.2
 generalize newFD v list path = D0 at h4 hl0 hI0
 have HI0 := Lib.hid hI0
 have HB := Lib.hid HS.out.1
 have HLT := Lib.hid (And.intro HS.out.2.1 HS.out.2.2.1)
 have HL0 := Lib.hid hl0
 clear hI0 hl0 HS HN
 have v0 := (h4.pull 2).cell 0
 have v1 := (h4.pull 2).cell 1
 have v2 := (h4.pull 2).cell 2
 have v3 := (h4.pull 2).cell 3
 have v4 := (h4.pull 2).cell 4
 simp at v0 v1 v2 v3 v4
 have h5 := h4.alloc (.cells #[.int .i64 v.n, .int .i64 v.ks, .int .i64 v.kg, .int .i64 v.ss, .int .i64 v.sg] 58)
 have k5 := k4.alloc (.cells #[.int .i64 v.n, .int .i64 v.ks, .int .i64 v.kg, .int .i64 v.ss, .int .i64 v.sg] 58)
 clear h4 k4
 go_upto_region 9 with (fail)
 generalize World.alloc _ _ = w5 at h5 k5 ⊢
 generalize w4.heap.size = U at h5 ⊢
 clear v0 v1 v2 v3 v4
 have h6 := (((((h5).pull 6).pull 6).pull 6).pull 3).pull 4
 clear h5
 go_wp2_with fail
 go_loopw [15] (fun iv wr => ∃ (i : Nat) (D' : FindD) (L1 : List KidD) (u : VerD) (AK1 : List SlotK) (FK1 : List Int) (AS1 : List SlotS) (FS1 : List Int) (GK1 GS1 : Nat) (tK1 : HTK) (tS1 : HTS), iv = .int .i64 i ∧ i ≤ 90 ∧ Hid (BaseV f ks AK1 tK v) ∧ Hid (StepI f ks AK1 tK list v N a er D') ∧ Hid (D'.loads = i) ∧ Hid (MadeI i L1 u AK1 FK1 AS1 FS1 GK1 GS1 tK1 tS1) ∧ Sat wr (findP fb D' :: own U (.cells #[.int .i64 u.n, .int .i64 u.ks, .int .i64 u.kg, .int .i64 u.ss, .int .i64 u.sg] 58 (0, 0)) :: own s (.cells (stoC mk ms) 80 (0, 0)) :: mapK mk 2000 AK1 FK1 :: mapS ms 2000 AS1 FS1 :: oldH W :: own V (.cells #[.int .i64 v.n, .int .i64 v.ks, .int .i64 v.kg, .int .i64 v.ss, .int .i64 v.sg] 58 (0, 0)) :: poolP fK [(.slice lao L.length lcap, L)] :: []) ∧ Kp W wr) (fun iv _ => 100 - (intOf iv).toNat)
 case atStart => exact ⟨0, D0, ks, v, AK, FK, AS, FS, GK, GS, tK, tS, rfl, by omega, HB, HI0, Lib.hid (by rw [HL0.out]; rfl), HMI0, h6, k5⟩
 case round =>
   clear h6 k5 HB HI0 HMI0
   obtain ⟨i, D', L1, u, AK1, FK1, AS1, FS1, GK1, GS1, tK1, tS1, rfl, hi, HB, HI', HLO, HMI, h7, k7⟩ := hrel
   have hwa := find_want h7
   have hi1 : (i : Int) ≤ 90 := by omega
   have hi0 : (0 : Int) ≤ (i : Int) := by omega
   have hwi : IntKind.i64.wrap ((i : Int) + 1) = (i : Int) + 1 := by rw [IntWalk.i64_in _ (by omega)]
   clear h7
   rcases moreF_iff D' with ⟨hm, hne⟩ | ⟨hm, hno⟩
   · rw [hm] at hwa
     obtain ⟨b1, b2, b3, sl, g1, g2, g3, g4⟩ := step_fin HB.out HLT.out.1 HLT.out.2 HI'.out hne
     have hl0 := HI'.out.l0
     have hlo := HLO.out
     have hi2 : i ≤ 80 := by omega
     have G1 := Lib.hid g1
     have G2 := Lib.hid g2
     have G3 := Lib.hid g3
     have G4 := Lib.hid (show (giveF sl.k sl.lh sl.rh D').loads = ((i + 1 : Nat) : Int) by rw [g4, hlo]; push_cast; rfl)
     have BB := Lib.hid (And.intro b2 (And.intro b3 (And.intro hl0 (show D'.loads ≤ 1000 by omega))))
     have HNE := Lib.hid hne
     clear b1 b2 b3 g1 g2 g3 g4 hl0 hlo hm hne
     go_wp2_with fail
     refine hwa.mono ?_
     rintro x w8 ⟨rfl, h8, k8⟩
     clear hwa
     have h9 := h8.alloc (.cells #[.int .i64 D'.want.s, .int .i64 D'.want.g] 56)
     have k9 := (k7.trans k8).alloc (.cells #[.int .i64 D'.want.s, .int .i64 D'.want.g] 56)
     clear h8 k7 k8
     go_upto_region 15 with (fail)
     generalize World.alloc _ _ = w9 at h9 k9 ⊢
     generalize w8.heap.size = B at h9 ⊢
     have b0 := (h9).cell 0
     have b1 := (h9).cell 1
     simp at b0 b1
     have s0 := (h9.pull 3).cell 0
     simp [stoC] at s0
     have hbl := h9.lt
     have hsl := (h9.pull 3).lt
     have hL1 := mapK_load ((h9.pull 4).drew) G1.out
     have hL2 := mapK_load ((((h9.pull 4).alloc (.cells #[.int .i64 0, .string ⟨#[]⟩, .int .i64 0, .bool false, .int .i64 0, .int .i64 0, .int .i64 0, .int .i64 0, .int .i64 0] 75)).swap).drew) G1.out
     go_cut [18, 19] from 56 to 120 (fun nv ov wx => ∃ Q : Nat, nv = .pointer (some ⟨Q, 0, none⟩) ∧ ov = .bool true ∧ Sat wx (own Q (.cells (nodC sl.k sl.v sl.lh sl.rh sl.hi) 75 (0, 0)) :: mapK mk 2000 AK1 FK1 :: own B (.cells #[.int .i64 D'.want.s, .int .i64 D'.want.g] 56 (0, 0)) :: findP fb D' :: own U (.cells #[.int .i64 u.n, .int .i64 u.ks, .int .i64 u.kg, .int .i64 u.ss, .int .i64 u.sg] 58 (0, 0)) :: own s (.cells (stoC mk ms) 80 (0, 0)) :: mapS ms 2000 AS1 FS1 :: oldH W :: own V (.cells #[.int .i64 v.n, .int .i64 v.ks, .int .i64 v.kg, .int .i64 v.ss, .int .i64 v.sg] 58 (0, 0)) :: poolP fK [(.slice lao L.length lcap, L)] :: []) ∧ Kp W wx)
     case first =>
       go_region_with ((first | (go_at_call 40; (with_reducible refine hL1.mono ?_); rintro x w11 ⟨rfl, h11, k11⟩) | (go_at_call 40; (with_reducible refine hL2.mono ?_); rintro x w11 ⟨rfl, h11, k11⟩; have q0 := (h11.pull 1).cell 0; have q1 := (h11.pull 1).cell 1; have q2 := (h11.pull 1).cell 2; have q3 := (h11.pull 1).cell 3; have q4 := (h11.pull 1).cell 4; have q5 := (h11.pull 1).cell 5; have q6 := (h11.pull 1).cell 6; have q7 := (h11.pull 1).cell 7; have q8 := (h11.pull 1).cell 8; have qf0 := (h11.pull 1).free 0; have qf1 := (h11.pull 1).free 1; have qf2 := (h11.pull 1).free 2; have qf3 := (h11.pull 1).free 3; have qf4 := (h11.pull 1).free 4; have qf5 := (h11.pull 1).free 5; have qf6 := (h11.pull 1).free 6; have qf7 := (h11.pull 1).free 7; have qf8 := (h11.pull 1).free 8; simp at q0 q1 q2 q3 q4 q5 q6 q7 q8; have qf0 := (h11.pull 1).free 0; have qf1 := (h11.pull 1).free 1; have qf2 := (h11.pull 1).free 2; have qf3 := (h11.pull 1).free 3; have qf4 := (h11.pull 1).free 4; have qf5 := (h11.pull 1).free 5; have qf6 := (h11.pull 1).free 6; have qf7 := (h11.pull 1).free 7; have qf8 := (h11.pull 1).free 8)))
       all_goals
         go_wp2_with fail
         go_meet
         case rel =>
           first
           | (have hq := qf8
              exact ⟨_, rfl, rfl, load2 h11, Kp.putCells [.int .i64 sl.k.up, .string sl.k.name, .int .i64 sl.k.node, .bool sl.v, .int .i64 sl.lh.s, .int .i64 sl.lh.g, .int .i64 sl.rh.s, .int .i64 sl.rh.g, .int .i64 sl.hi] 0 (((k9.alloc _).drew).trans k11)⟩)
           | exact ⟨_, rfl, rfl, load1 h11, (k9.drew.trans k11).alloc _⟩
     case rest =>
       clear hL1 hL2 b0 b1 s0 hbl hsl h9 k9
       obtain ⟨Q, rfl, rfl, h11, k11⟩ := hcut
       have q0 := (h11).cell 0
       have q1 := (h11).cell 1
       have q2 := (h11).cell 2
       have q3 := (h11).cell 3
       have q4 := (h11).cell 4
       have q5 := (h11).cell 5
       have q6 := (h11).cell 6
       have q7 := (h11).cell 7
       have q8 := (h11).cell 8
       simp [nodC] at q0 q1 q2 q3 q4 q5 q6 q7 q8
       have hgi := find_give (k := sl.k) (b := sl.v) (lh := sl.lh) (rh := sl.rh) (hi := sl.hi) (h11.pull 3) HNE.out G2.out BB.out.1 BB.out.2.1 BB.out.2.2.1 BB.out.2.2.2
       unfold nodC at hgi
       clear h11
       go_wp2_with fail
       refine hgi.mono ?_
       rintro x w12 ⟨rfl, h12, k12⟩
       have k12 := k11.trans k12
       clear hgi k11 q0 q1 q2 q3 q4 q5 q6 q7 q8
       by_cases hmi : i < m
       case neg =>
         have hmi' : ¬ (i : Int) < (m : Int) := by omega
         clear hmi
         go_wp2_with fail
         go_roundw
         case rel => exact ⟨i + 1, giveF sl.k sl.lh sl.rh D', L1, u, AK1, FK1, AS1, FS1, GK1, GS1, tK1, tS1, by go_num, by omega, HB, G3, G4, Lib.hid HMI.out.stay, (((((((h12).pull 1).tail).pull 2).tail).pull 3).pull 3).pull 2, k12⟩
         case measure => simp [intOf]; omega
       have hmi' : (i : Int) < (m : Int) := by omega
       have har := HMR.out.old (h12.pull 7)
       obtain ⟨t, ht⟩ : ∃ t, us[i]? = some t := ⟨_, List.getElem?_eq_getElem (by rw [HMR.out.len]; exact hmi)⟩
       obtain ⟨tb, toff, rfl⟩ := har.some hmi
       have x0 := har.cell (size := 5) (fun _ => rfl) 0 rfl ht rfl
       have x1 := har.cell (size := 5) (fun _ => rfl) 1 rfl ht rfl
       have x2 := har.cell (size := 5) (fun _ => rfl) 2 rfl ht rfl
       have x3 := har.cell (size := 5) (fun _ => rfl) 3 rfl ht rfl
       have x4 := har.cell (size := 5) (fun _ => rfl) 4 rfl ht rfl
       simp only [Nat.add_zero] at x0
       have hof := tiny_of h12 (HMOK.out t (List.mem_of_getElem? ht))
       clear har ht h12 hmi
       go_wp2_with fail
       refine hof.mono ?_
       rintro x w13 ⟨rfl, h13, k13⟩
       clear hof x0 x1 x2 x3 x4
       generalize ofT t = o at h13 ⊢
       unfold aggO
       have h14 := h13.alloc (.cells #[.int .i64 o.n, .int .i64 o.r, .int .i64 o.node, .int .i64 o.up, .string o.name] 88)
       have k14 := (k12.trans k13).alloc (.cells #[.int .i64 o.n, .int .i64 o.r, .int .i64 o.node, .int .i64 o.up, .string o.name] 88)
       clear h13 k12 k13
       go_upto_region 19 with (fail)
       generalize World.alloc _ _ = w14 at h14 k14 ⊢
       generalize w13.heap.size = C at h14 ⊢
       have h15 := (((((h14).pull 7).pull 4).pull 7).pull 3).pull 7
       clear h14
       obtain ⟨sp, hsp⟩ : ∃ sp, (getT cmpI o.node tS1).getD spD0 = sp := ⟨_, rfl⟩
       have spc := fun (W' : World) (l' : List HProp) (hW' : Sat W' (own s (.cells (stoC mk ms) 80 (0, 0)) :: mapS ms 2000 AS1 FS1 :: l')) => store_spot (v := u) o.node hW' HMI.out.ver.s.rep HMI.out.ver.ss HMI.out.ver.sg
       have stc := fun (W' : World) (l' : List HProp) (hW' : Sat W' (own s (.cells (stoC mk ms) 80 (0, 0)) :: mapK mk 2000 AK1 FK1 :: mapS ms 2000 AS1 FS1 :: l')) => set_old (n := o.node) (nu := o.up) (nm := o.name) hW' HMI.out.ver HMI.out.nodup (by have := HMI.out.len; omega) (by decide) (by decide) (by have := HMI.out.gK; omega) (by have := HMI.out.gS; omega)
       rw [hsp] at spc stc
       unfold aggV aggSp at spc
       unfold aggV at stc
       have SPC := Lib.hid spc
       have STC := Lib.hid stc
       clear spc stc hsp
       have hz0 := (((h15).pull 4).pull 3).drew
       have zs0 := SPC.out _ _ hz0
       clear hz0
       have hza := ((((h15).alloc (.cells #[.int .i64 0, .int .i64 0, .int .i64 0, .int .i64 0, .int .i64 0] 58)).pull 5).pull 4).drew
       have zsa := SPC.out _ _ hza
       clear hza
       have hzab := (((((h15).alloc (.cells #[.int .i64 0, .int .i64 0, .int .i64 0, .int .i64 0, .int .i64 0] 58)).alloc (.cells #[.slice none 0 0, .slice none 0 0, .slice none 0 0, .slice none 0 0] 94)).pull 6).pull 5).drew
       simp only [World.size_alloc] at hzab
       have zsab := SPC.out _ _ hzab
       clear hzab
       have hzb := ((((h15).alloc (.cells #[.slice none 0 0, .slice none 0 0, .slice none 0 0, .slice none 0 0] 94)).pull 5).pull 4).drew
       have zsb := SPC.out _ _ hzb
       clear hzb
       have hzba := (((((h15).alloc (.cells #[.slice none 0 0, .slice none 0 0, .slice none 0 0, .slice none 0 0] 94)).alloc (.cells #[.int .i64 0, .int .i64 0, .int .i64 0, .int .i64 0, .int .i64 0] 58)).pull 6).pull 5).drew
       simp only [World.size_alloc] at hzba
       have zsba := SPC.out _ _ hzba
       clear hzba
       go_cut [21, 22, 23] from 56 to 120 (fun bv cv iv wx => ∃ (X Y : Nat) (ok : Bool) (v1 : VerD) (AK2 : List SlotK) (FK2 : List Int) (AS2 : List SlotS) (FS2 : List Int), bv = .pointer (some ⟨X, 0, none⟩) ∧ cv = .pointer (some ⟨Y, 0, none⟩) ∧ iv = .bool ok ∧ OldR 2000 L1 u AK1 GK1 GS1 tK1 tS1 ok v1 AK2 FK2 AS2 FS2 ∧ Sat wx (own X (.cells #[.int .i64 v1.n, .int .i64 v1.ks, .int .i64 v1.kg, .int .i64 v1.ss, .int .i64 v1.sg] 58 (0, 0)) :: own s (.cells (stoC mk ms) 80 (0, 0)) :: mapK mk 2000 AK2 FK2 :: mapS ms 2000 AS2 FS2 :: own U (.cells #[.int .i64 u.n, .int .i64 u.ks, .int .i64 u.kg, .int .i64 u.ss, .int .i64 u.sg] 58 (0, 0)) :: own C (.cells #[.int .i64 o.n, .int .i64 o.r, .int .i64 o.node, .int .i64 o.up, .string o.name] 88 (0, 0)) :: findP fb (giveF sl.k sl.lh sl.rh D') :: own Q (.cells (nodC sl.k sl.v sl.lh sl.rh sl.hi) 75 (0, 0)) :: own B (.cells #[.int .i64 D'.want.s, .int .i64 D'.want.g] 56 (0, 0)) :: oldH W :: own V (.cells #[.int .i64 v.n, .int .i64 v.ks, .int .i64 v.kg, .int .i64 v.ss, .int .i64 v.sg] 58 (0, 0)) :: poolP fK [(.slice lao L.length lcap, L)] :: []) ∧ Kp W wx)
       case first =>
         have S0 := oldS (h15)
         have HS0 := Lib.hid S0
         clear S0
         have SH0 := oldS (h15.drew)
         have SH1 := fun (c1 : Array Value) (q1 : TypeId) => oldS (((((h15).alloc (.cells c1 q1)).drew).pull 2).pull 2)
         have SH2 := fun (c1 : Array Value) (q1 : TypeId) (c2 : Array Value) (q2 : TypeId) => oldS ((((((h15).alloc (.cells c1 q1)).alloc (.cells c2 q2)).drew).pull 3).pull 3)
         go_region_held3 (fun w' => (w'.cell? ⟨U, 0, none⟩ = some (.int .i64 u.n) ∧ w'.cell? ⟨U, 1, none⟩ = some (.int .i64 u.ks) ∧ w'.cell? ⟨U, 2, none⟩ = some (.int .i64 u.kg) ∧ w'.cell? ⟨U, 3, none⟩ = some (.int .i64 u.ss) ∧ w'.cell? ⟨U, 4, none⟩ = some (.int .i64 u.sg)) ∧ (w'.cell? ⟨C, 2, none⟩ = some (.int .i64 o.node) ∧ w'.cell? ⟨C, 3, none⟩ = some (.int .i64 o.up) ∧ w'.cell? ⟨C, 4, none⟩ = some (.string o.name))) (first | with_reducible exact HS0.out | with_reducible exact SH0 | with_reducible exact SH1 _ _ | with_reducible exact SH2 _ _ _ _ | with_reducible exact SA | with_reducible exact SA1 _ _ | with_reducible exact SA2 _ _ _ _ | with_reducible exact SB | with_reducible exact SB1 _ _ | with_reducible exact SB2 _ _ _ _ | with_reducible exact SC1 _ _ _ _ _ | with_reducible exact SC2 _ _ _ _ _ _ _ | with_reducible exact SC3 _ _ _ _ _ _ _ _ _ | with_reducible exact SD1 _ _ _ _ | with_reducible exact SD2 _ _ _ _ _ _ | fail) ((first
           | (go_at_call 44; (with_reducible refine zs0.mono ?_); rintro e w16 ⟨rfl, h16, k16⟩; have SA := oldS (((h16).pull 3).pull 3); have SA1 := fun (c1 : Array Value) (q1 : TypeId) => oldS ((((h16).alloc (.cells c1 q1)).pull 4).pull 4); have SA2 := fun (c1 : Array Value) (q1 : TypeId) (c2 : Array Value) (q2 : TypeId) => oldS (((((h16).alloc (.cells c1 q1)).alloc (.cells c2 q2)).pull 5).pull 5); have hy0_0 := ((h16).pull 4).pull 1; have zc0_0 := STC.out _ _ hy0_0; clear hy0_0; have hy0_a := ((((h16).alloc (.cells #[.int .i64 0, .int .i64 0, .int .i64 0, .int .i64 0, .int .i64 0] 58)).pull 2).pull 5).pull 3; have zc0_a := STC.out _ _ hy0_a; clear hy0_a; have hy0_ab := (((((h16).alloc (.cells #[.int .i64 0, .int .i64 0, .int .i64 0, .int .i64 0, .int .i64 0] 58)).alloc (.cells #[.slice none 0 0, .slice none 0 0, .slice none 0 0, .slice none 0 0] 94)).pull 3).pull 6).pull 4; simp only [World.size_alloc] at hy0_ab; have zc0_ab := STC.out _ _ hy0_ab; clear hy0_ab; have hy0_b := ((((h16).alloc (.cells #[.slice none 0 0, .slice none 0 0, .slice none 0 0, .slice none 0 0] 94)).pull 2).pull 5).pull 3; have zc0_b := STC.out _ _ hy0_b; clear hy0_b; have hy0_ba := (((((h16).alloc (.cells #[.slice none 0 0, .slice none 0 0, .slice none 0 0, .slice none 0 0] 94)).alloc (.cells #[.int .i64 0, .int .i64 0, .int .i64 0, .int .i64 0, .int .i64 0] 58)).pull 3).pull 6).pull 4; simp only [World.size_alloc] at hy0_ba; have zc0_ba := STC.out _ _ hy0_ba; clear hy0_ba; have kS := k14.drew.trans k16)
           | (go_at_call 44; (with_reducible refine zsa.mono ?_); rintro e w16 ⟨rfl, h16, k16⟩; have SA := oldS (((h16).pull 4).pull 4); have SA1 := fun (c1 : Array Value) (q1 : TypeId) => oldS ((((h16).alloc (.cells c1 q1)).pull 5).pull 5); have SA2 := fun (c1 : Array Value) (q1 : TypeId) (c2 : Array Value) (q2 : TypeId) => oldS (((((h16).alloc (.cells c1 q1)).alloc (.cells c2 q2)).pull 6).pull 6); have hya_0 := ((h16).pull 5).pull 1; have zca_0 := STC.out _ _ hya_0; clear hya_0; have hya_b := ((((h16).alloc (.cells #[.slice none 0 0, .slice none 0 0, .slice none 0 0, .slice none 0 0] 94)).pull 2).pull 6).pull 3; have zca_b := STC.out _ _ hya_b; clear hya_b; have kS := (k14.alloc (.cells #[.int .i64 0, .int .i64 0, .int .i64 0, .int .i64 0, .int .i64 0] 58)).drew.trans k16)
           | (go_at_call 44; (with_reducible refine zsab.mono ?_); rintro e w16 ⟨rfl, h16, k16⟩; have SA := oldS (((h16).pull 5).pull 5); have SA1 := fun (c1 : Array Value) (q1 : TypeId) => oldS ((((h16).alloc (.cells c1 q1)).pull 6).pull 6); have SA2 := fun (c1 : Array Value) (q1 : TypeId) (c2 : Array Value) (q2 : TypeId) => oldS (((((h16).alloc (.cells c1 q1)).alloc (.cells c2 q2)).pull 7).pull 7); have hyab_0 := ((h16).pull 6).pull 1; have zcab_0 := STC.out _ _ hyab_0; clear hyab_0; have kS := ((k14.alloc (.cells #[.int .i64 0, .int .i64 0, .int .i64 0, .int .i64 0, .int .i64 0] 58)).alloc (.cells #[.slice none 0 0, .slice none 0 0, .slice none 0 0, .slice none 0 0] 94)).drew.trans k16)
           | (go_at_call 44; (with_reducible refine zsb.mono ?_); rintro e w16 ⟨rfl, h16, k16⟩; have SA := oldS (((h16).pull 4).pull 4); have SA1 := fun (c1 : Array Value) (q1 : TypeId) => oldS ((((h16).alloc (.cells c1 q1)).pull 5).pull 5); have SA2 := fun (c1 : Array Value) (q1 : TypeId) (c2 : Array Value) (q2 : TypeId) => oldS (((((h16).alloc (.cells c1 q1)).alloc (.cells c2 q2)).pull 6).pull 6); have hyb_0 := ((h16).pull 5).pull 1; have zcb_0 := STC.out _ _ hyb_0; clear hyb_0; have hyb_a := ((((h16).alloc (.cells #[.int .i64 0, .int .i64 0, .int .i64 0, .int .i64 0, .int .i64 0] 58)).pull 2).pull 6).pull 3; have zcb_a := STC.out _ _ hyb_a; clear hyb_a; have kS := (k14.alloc (.cells #[.slice none 0 0, .slice none 0 0, .slice none 0 0, .slice none 0 0] 94)).drew.trans k16)
           | (go_at_call 44; (with_reducible refine zsba.mono ?_); rintro e w16 ⟨rfl, h16, k16⟩; have SA := oldS (((h16).pull 5).pull 5); have SA1 := fun (c1 : Array Value) (q1 : TypeId) => oldS ((((h16).alloc (.cells c1 q1)).pull 6).pull 6); have SA2 := fun (c1 : Array Value) (q1 : TypeId) (c2 : Array Value) (q2 : TypeId) => oldS (((((h16).alloc (.cells c1 q1)).alloc (.cells c2 q2)).pull 7).pull 7); have hyba_0 := ((h16).pull 6).pull 1; have zcba_0 := STC.out _ _ hyba_0; clear hyba_0; have kS := ((k14.alloc (.cells #[.slice none 0 0, .slice none 0 0, .slice none 0 0, .slice none 0 0] 94)).alloc (.cells #[.int .i64 0, .int .i64 0, .int .i64 0, .int .i64 0, .int .i64 0] 58)).drew.trans k16)
           | (go_at_call 43; (with_reducible refine zc0_0.mono ?_); rintro e w17 ⟨ok, v1, o1, o2, o3, o4, m1, m2, m3, m4, d1, d2, d3, d4, AK2, FK2, AS2, FS2, rfl, hOR, h17, k17⟩; have h18 := h17; have kF := (kS).trans k17; have SB := oldS (((h18).pull 4).pull 4); have SB1 := fun (c1 : Array Value) (q1 : TypeId) => oldS ((((h18).alloc (.cells c1 q1)).pull 5).pull 5); have SB2 := fun (c1 : Array Value) (q1 : TypeId) (c2 : Array Value) (q2 : TypeId) => oldS (((((h18).alloc (.cells c1 q1)).alloc (.cells c2 q2)).pull 6).pull 6); have hN := h18)
           | (go_at_call 43; (with_reducible refine zc0_a.mono ?_); rintro e w17 ⟨ok, v1, o1, o2, o3, o4, m1, m2, m3, m4, d1, d2, d3, d4, AK2, FK2, AS2, FS2, rfl, hOR, h17, k17⟩; have h18 := (h17).pull 3; have kF := ((kS.alloc (.cells #[.int .i64 0, .int .i64 0, .int .i64 0, .int .i64 0, .int .i64 0] 58))).trans k17; have SB := oldS (((h18).pull 5).pull 5); have SB1 := fun (c1 : Array Value) (q1 : TypeId) => oldS ((((h18).alloc (.cells c1 q1)).pull 6).pull 6); have SB2 := fun (c1 : Array Value) (q1 : TypeId) (c2 : Array Value) (q2 : TypeId) => oldS (((((h18).alloc (.cells c1 q1)).alloc (.cells c2 q2)).pull 7).pull 7); have SC1 := fun (x0 x1 x2 x3 x4 : Value) => oldS (((((((((h18).set 0 x0).set 1 x1).set 2 x2).set 3 x3).set 4 x4)).pull 5).pull 5); have SC2 := fun (x0 x1 x2 x3 x4 : Value) (c1 : Array Value) (q1 : TypeId) => oldS ((((((((((h18).set 0 x0).set 1 x1).set 2 x2).set 3 x3).set 4 x4)).alloc (.cells c1 q1)).pull 6).pull 6); have nv0 := (h18.pull 0).cell 0; have nv1 := (h18.pull 0).cell 1; have nv2 := (h18.pull 0).cell 2; have nv3 := (h18.pull 0).cell 3; have nv4 := (h18.pull 0).cell 4; have nvf0 := (h18.pull 0).free 0; have nvf1 := (h18.pull 0).free 1; have nvf2 := (h18.pull 0).free 2; have nvf3 := (h18.pull 0).free 3; have nvf4 := (h18.pull 0).free 4; simp at nv0 nv1 nv2 nv3 nv4; have nvl := (h18.pull 0).lt; have hA1 := h18)
           | (go_at_call 43; (with_reducible refine zc0_ab.mono ?_); rintro e w17 ⟨ok, v1, o1, o2, o3, o4, m1, m2, m3, m4, d1, d2, d3, d4, AK2, FK2, AS2, FS2, rfl, hOR, h17, k17⟩; have h18 := ((h17).pull 3).pull 4; have kF := (((kS.alloc (.cells #[.int .i64 0, .int .i64 0, .int .i64 0, .int .i64 0, .int .i64 0] 58)).alloc (.cells #[.slice none 0 0, .slice none 0 0, .slice none 0 0, .slice none 0 0] 94))).trans k17; have SB := oldS (((h18).pull 6).pull 6); have SB1 := fun (c1 : Array Value) (q1 : TypeId) => oldS ((((h18).alloc (.cells c1 q1)).pull 7).pull 7); have SB2 := fun (c1 : Array Value) (q1 : TypeId) (c2 : Array Value) (q2 : TypeId) => oldS (((((h18).alloc (.cells c1 q1)).alloc (.cells c2 q2)).pull 8).pull 8); have SC1 := fun (x0 x1 x2 x3 x4 : Value) => oldS (((((((((h18).set 0 x0).set 1 x1).set 2 x2).set 3 x3).set 4 x4)).pull 6).pull 6); have SC2 := fun (x0 x1 x2 x3 x4 : Value) (c1 : Array Value) (q1 : TypeId) => oldS ((((((((((h18).set 0 x0).set 1 x1).set 2 x2).set 3 x3).set 4 x4)).alloc (.cells c1 q1)).pull 7).pull 7); have nv0 := (h18.pull 0).cell 0; have nv1 := (h18.pull 0).cell 1; have nv2 := (h18.pull 0).cell 2; have nv3 := (h18.pull 0).cell 3; have nv4 := (h18.pull 0).cell 4; have nvf0 := (h18.pull 0).free 0; have nvf1 := (h18.pull 0).free 1; have nvf2 := (h18.pull 0).free 2; have nvf3 := (h18.pull 0).free 3; have nvf4 := (h18.pull 0).free 4; simp at nv0 nv1 nv2 nv3 nv4; have nvl := (h18.pull 0).lt; have SD1 := fun (y0 y1 y2 y3 : Value) => oldS (((((((((h18).pull 1).set 0 y0).set 1 y1).set 2 y2).set 3 y3)).pull 6).pull 6); have SD2 := fun (y0 y1 y2 y3 : Value) (c1 : Array Value) (q1 : TypeId) => oldS ((((((((((h18).pull 1).set 0 y0).set 1 y1).set 2 y2).set 3 y3)).alloc (.cells c1 q1)).pull 7).pull 7); have nt0 := (h18.pull 1).cell 0; have nt1 := (h18.pull 1).cell 1; have nt2 := (h18.pull 1).cell 2; have nt3 := (h18.pull 1).cell 3; have ntf0 := (h18.pull 1).free 0; have ntf1 := (h18.pull 1).free 1; have ntf2 := (h18.pull 1).free 2; have ntf3 := (h18.pull 1).free 3; simp at nt0 nt1 nt2 nt3; have ntl := (h18.pull 1).lt; have SC3 := fun (x0 x1 x2 x3 x4 : Value) (y0 y1 y2 y3 : Value) => oldS (((((((((((((((h18).set 0 x0).set 1 x1).set 2 x2).set 3 x3).set 4 x4)).pull 1).set 0 y0).set 1 y1).set 2 y2).set 3 y3)).pull 6).pull 6); have nne := h18.ne; have nne' := nne.symm; have hAB := h18)
           | (go_at_call 43; (with_reducible refine zc0_b.mono ?_); rintro e w17 ⟨ok, v1, o1, o2, o3, o4, m1, m2, m3, m4, d1, d2, d3, d4, AK2, FK2, AS2, FS2, rfl, hOR, h17, k17⟩; have h18 := (h17).pull 3; have kF := ((kS.alloc (.cells #[.slice none 0 0, .slice none 0 0, .slice none 0 0, .slice none 0 0] 94))).trans k17; have SB := oldS (((h18).pull 5).pull 5); have SB1 := fun (c1 : Array Value) (q1 : TypeId) => oldS ((((h18).alloc (.cells c1 q1)).pull 6).pull 6); have SB2 := fun (c1 : Array Value) (q1 : TypeId) (c2 : Array Value) (q2 : TypeId) => oldS (((((h18).alloc (.cells c1 q1)).alloc (.cells c2 q2)).pull 7).pull 7); have SD1 := fun (y0 y1 y2 y3 : Value) => oldS ((((((((h18).set 0 y0).set 1 y1).set 2 y2).set 3 y3)).pull 5).pull 5); have SD2 := fun (y0 y1 y2 y3 : Value) (c1 : Array Value) (q1 : TypeId) => oldS (((((((((h18).set 0 y0).set 1 y1).set 2 y2).set 3 y3)).alloc (.cells c1 q1)).pull 6).pull 6); have nt0 := (h18.pull 0).cell 0; have nt1 := (h18.pull 0).cell 1; have nt2 := (h18.pull 0).cell 2; have nt3 := (h18.pull 0).cell 3; have ntf0 := (h18.pull 0).free 0; have ntf1 := (h18.pull 0).free 1; have ntf2 := (h18.pull 0).free 2; have ntf3 := (h18.pull 0).free 3; simp at nt0 nt1 nt2 nt3; have ntl := (h18.pull 0).lt; have hB1 := h18)
           | (go_at_call 43; (with_reducible refine zc0_ba.mono ?_); rintro e w17 ⟨ok, v1, o1, o2, o3, o4, m1, m2, m3, m4, d1, d2, d3, d4, AK2, FK2, AS2, FS2, rfl, hOR, h17, k17⟩; have h18 := ((h17).pull 4).pull 4; have kF := (((kS.alloc (.cells #[.slice none 0 0, .slice none 0 0, .slice none 0 0, .slice none 0 0] 94)).alloc (.cells #[.int .i64 0, .int .i64 0, .int .i64 0, .int .i64 0, .int .i64 0] 58))).trans k17; have SB := oldS (((h18).pull 6).pull 6); have SB1 := fun (c1 : Array Value) (q1 : TypeId) => oldS ((((h18).alloc (.cells c1 q1)).pull 7).pull 7); have SB2 := fun (c1 : Array Value) (q1 : TypeId) (c2 : Array Value) (q2 : TypeId) => oldS (((((h18).alloc (.cells c1 q1)).alloc (.cells c2 q2)).pull 8).pull 8); have SC1 := fun (x0 x1 x2 x3 x4 : Value) => oldS (((((((((h18).set 0 x0).set 1 x1).set 2 x2).set 3 x3).set 4 x4)).pull 6).pull 6); have SC2 := fun (x0 x1 x2 x3 x4 : Value) (c1 : Array Value) (q1 : TypeId) => oldS ((((((((((h18).set 0 x0).set 1 x1).set 2 x2).set 3 x3).set 4 x4)).alloc (.cells c1 q1)).pull 7).pull 7); have nv0 := (h18.pull 0).cell 0; have nv1 := (h18.pull 0).cell 1; have nv2 := (h18.pull 0).cell 2; have nv3 := (h18.pull 0).cell 3; have nv4 := (h18.pull 0).cell 4; have nvf0 := (h18.pull 0).free 0; have nvf1 := (h18.pull 0).free 1; have nvf2 := (h18.pull 0).free 2; have nvf3 := (h18.pull 0).free 3; have nvf4 := (h18.pull 0).free 4; simp at nv0 nv1 nv2 nv3 nv4; have nvl := (h18.pull 0).lt; have SD1 := fun (y0 y1 y2 y3 : Value) => oldS (((((((((h18).pull 1).set 0 y0).set 1 y1).set 2 y2).set 3 y3)).pull 6).pull 6); have SD2 := fun (y0 y1 y2 y3 : Value) (c1 : Array Value) (q1 : TypeId) => oldS ((((((((((h18).pull 1).set 0 y0).set 1 y1).set 2 y2).set 3 y3)).alloc (.cells c1 q1)).pull 7).pull 7); have nt0 := (h18.pull 1).cell 0; have nt1 := (h18.pull 1).cell 1; have nt2 := (h18.pull 1).cell 2; have nt3 := (h18.pull 1).cell 3; have ntf0 := (h18.pull 1).free 0; have ntf1 := (h18.pull 1).free 1; have ntf2 := (h18.pull 1).free 2; have ntf3 := (h18.pull 1).free 3; simp at nt0 nt1 nt2 nt3; have ntl := (h18.pull 1).lt; have SC3 := fun (x0 x1 x2 x3 x4 : Value) (y0 y1 y2 y3 : Value) => oldS (((((((((((((((h18).set 0 x0).set 1 x1).set 2 x2).set 3 x3).set 4 x4)).pull 1).set 0 y0).set 1 y1).set 2 y2).set 3 y3)).pull 6).pull 6); have nne := h18.ne; have nne' := nne.symm; have hAB := h18)
           | (go_at_call 43; (with_reducible refine zca_0.mono ?_); rintro e w17 ⟨ok, v1, o1, o2, o3, o4, m1, m2, m3, m4, d1, d2, d3, d4, AK2, FK2, AS2, FS2, rfl, hOR, h17, k17⟩; have h18 := (h17).pull 3; have kF := (kS).trans k17; have SB := oldS (((h18).pull 5).pull 5); have SB1 := fun (c1 : Array Value) (q1 : TypeId) => oldS ((((h18).alloc (.cells c1 q1)).pull 6).pull 6); have SB2 := fun (c1 : Array Value) (q1 : TypeId) (c2 : Array Value) (q2 : TypeId) => oldS (((((h18).alloc (.cells c1 q1)).alloc (.cells c2 q2)).pull 7).pull 7); have SC1 := fun (x0 x1 x2 x3 x4 : Value) => oldS (((((((((h18).set 0 x0).set 1 x1).set 2 x2).set 3 x3).set 4 x4)).pull 5).pull 5); have SC2 := fun (x0 x1 x2 x3 x4 : Value) (c1 : Array Value) (q1 : TypeId) => oldS ((((((((((h18).set 0 x0).set 1 x1).set 2 x2).set 3 x3).set 4 x4)).alloc (.cells c1 q1)).pull 6).pull 6); have nv0 := (h18.pull 0).cell 0; have nv1 := (h18.pull 0).cell 1; have nv2 := (h18.pull 0).cell 2; have nv3 := (h18.pull 0).cell 3; have nv4 := (h18.pull 0).cell 4; have nvf0 := (h18.pull 0).free 0; have nvf1 := (h18.pull 0).free 1; have nvf2 := (h18.pull 0).free 2; have nvf3 := (h18.pull 0).free 3; have nvf4 := (h18.pull 0).free 4; simp at nv0 nv1 nv2 nv3 nv4; have nvl := (h18.pull 0).lt; have hA1 := h18)
           | (go_at_call 43; (with_reducible refine zca_b.mono ?_); rintro e w17 ⟨ok, v1, o1, o2, o3, o4, m1, m2, m3, m4, d1, d2, d3, d4, AK2, FK2, AS2, FS2, rfl, hOR, h17, k17⟩; have h18 := ((h17).pull 3).pull 4; have kF := ((kS.alloc (.cells #[.slice none 0 0, .slice none 0 0, .slice none 0 0, .slice none 0 0] 94))).trans k17; have SB := oldS (((h18).pull 6).pull 6); have SB1 := fun (c1 : Array Value) (q1 : TypeId) => oldS ((((h18).alloc (.cells c1 q1)).pull 7).pull 7); have SB2 := fun (c1 : Array Value) (q1 : TypeId) (c2 : Array Value) (q2 : TypeId) => oldS (((((h18).alloc (.cells c1 q1)).alloc (.cells c2 q2)).pull 8).pull 8); have SC1 := fun (x0 x1 x2 x3 x4 : Value) => oldS (((((((((h18).set 0 x0).set 1 x1).set 2 x2).set 3 x3).set 4 x4)).pull 6).pull 6); have SC2 := fun (x0 x1 x2 x3 x4 : Value) (c1 : Array Value) (q1 : TypeId) => oldS ((((((((((h18).set 0 x0).set 1 x1).set 2 x2).set 3 x3).set 4 x4)).alloc (.cells c1 q1)).pull 7).pull 7); have nv0 := (h18.pull 0).cell 0; have nv1 := (h18.pull 0).cell 1; have nv2 := (h18.pull 0).cell 2; have nv3 := (h18.pull 0).cell 3; have nv4 := (h18.pull 0).cell 4; have nvf0 := (h18.pull 0).free 0; have nvf1 := (h18.pull 0).free 1; have nvf2 := (h18.pull 0).free 2; have nvf3 := (h18.pull 0).free 3; have nvf4 := (h18.pull 0).free 4; simp at nv0 nv1 nv2 nv3 nv4; have nvl := (h18.pull 0).lt; have SD1 := fun (y0 y1 y2 y3 : Value) => oldS (((((((((h18).pull 1).set 0 y0).set 1 y1).set 2 y2).set 3 y3)).pull 6).pull 6); have SD2 := fun (y0 y1 y2 y3 : Value) (c1 : Array Value) (q1 : TypeId) => oldS ((((((((((h18).pull 1).set 0 y0).set 1 y1).set 2 y2).set 3 y3)).alloc (.cells c1 q1)).pull 7).pull 7); have nt0 := (h18.pull 1).cell 0; have nt1 := (h18.pull 1).cell 1; have nt2 := (h18.pull 1).cell 2; have nt3 := (h18.pull 1).cell 3; have ntf0 := (h18.pull 1).free 0; have ntf1 := (h18.pull 1).free 1; have ntf2 := (h18.pull 1).free 2; have ntf3 := (h18.pull 1).free 3; simp at nt0 nt1 nt2 nt3; have ntl := (h18.pull 1).lt; have SC3 := fun (x0 x1 x2 x3 x4 : Value) (y0 y1 y2 y3 : Value) => oldS (((((((((((((((h18).set 0 x0).set 1 x1).set 2 x2).set 3 x3).set 4 x4)).pull 1).set 0 y0).set 1 y1).set 2 y2).set 3 y3)).pull 6).pull 6); have nne := h18.ne; have nne' := nne.symm; have hAB := h18)
           | (go_at_call 43; (with_reducible refine zcab_0.mono ?_); rintro e w17 ⟨ok, v1, o1, o2, o3, o4, m1, m2, m3, m4, d1, d2, d3, d4, AK2, FK2, AS2, FS2, rfl, hOR, h17, k17⟩; have h18 := ((h17).pull 3).pull 4; have kF := (kS).trans k17; have SB := oldS (((h18).pull 6).pull 6); have SB1 := fun (c1 : Array Value) (q1 : TypeId) => oldS ((((h18).alloc (.cells c1 q1)).pull 7).pull 7); have SB2 := fun (c1 : Array Value) (q1 : TypeId) (c2 : Array Value) (q2 : TypeId) => oldS (((((h18).alloc (.cells c1 q1)).alloc (.cells c2 q2)).pull 8).pull 8); have SC1 := fun (x0 x1 x2 x3 x4 : Value) => oldS (((((((((h18).set 0 x0).set 1 x1).set 2 x2).set 3 x3).set 4 x4)).pull 6).pull 6); have SC2 := fun (x0 x1 x2 x3 x4 : Value) (c1 : Array Value) (q1 : TypeId) => oldS ((((((((((h18).set 0 x0).set 1 x1).set 2 x2).set 3 x3).set 4 x4)).alloc (.cells c1 q1)).pull 7).pull 7); have nv0 := (h18.pull 0).cell 0; have nv1 := (h18.pull 0).cell 1; have nv2 := (h18.pull 0).cell 2; have nv3 := (h18.pull 0).cell 3; have nv4 := (h18.pull 0).cell 4; have nvf0 := (h18.pull 0).free 0; have nvf1 := (h18.pull 0).free 1; have nvf2 := (h18.pull 0).free 2; have nvf3 := (h18.pull 0).free 3; have nvf4 := (h18.pull 0).free 4; simp at nv0 nv1 nv2 nv3 nv4; have nvl := (h18.pull 0).lt; have SD1 := fun (y0 y1 y2 y3 : Value) => oldS (((((((((h18).pull 1).set 0 y0).set 1 y1).set 2 y2).set 3 y3)).pull 6).pull 6); have SD2 := fun (y0 y1 y2 y3 : Value) (c1 : Array Value) (q1 : TypeId) => oldS ((((((((((h18).pull 1).set 0 y0).set 1 y1).set 2 y2).set 3 y3)).alloc (.cells c1 q1)).pull 7).pull 7); have nt0 := (h18.pull 1).cell 0; have nt1 := (h18.pull 1).cell 1; have nt2 := (h18.pull 1).cell 2; have nt3 := (h18.pull 1).cell 3; have ntf0 := (h18.pull 1).free 0; have ntf1 := (h18.pull 1).free 1; have ntf2 := (h18.pull 1).free 2; have ntf3 := (h18.pull 1).free 3; simp at nt0 nt1 nt2 nt3; have ntl := (h18.pull 1).lt; have SC3 := fun (x0 x1 x2 x3 x4 : Value) (y0 y1 y2 y3 : Value) => oldS (((((((((((((((h18).set 0 x0).set 1 x1).set 2 x2).set 3 x3).set 4 x4)).pull 1).set 0 y0).set 1 y1).set 2 y2).set 3 y3)).pull 6).pull 6); have nne := h18.ne; have nne' := nne.symm; have hAB := h18)
           | (go_at_call 43; (with_reducible refine zcb_0.mono ?_); rintro e w17 ⟨ok, v1, o1, o2, o3, o4, m1, m2, m3, m4, d1, d2, d3, d4, AK2, FK2, AS2, FS2, rfl, hOR, h17, k17⟩; have h18 := (h17).pull 3; have kF := (kS).trans k17; have SB := oldS (((h18).pull 5).pull 5); have SB1 := fun (c1 : Array Value) (q1 : TypeId) => oldS ((((h18).alloc (.cells c1 q1)).pull 6).pull 6); have SB2 := fun (c1 : Array Value) (q1 : TypeId) (c2 : Array Value) (q2 : TypeId) => oldS (((((h18).alloc (.cells c1 q1)).alloc (.cells c2 q2)).pull 7).pull 7); have SD1 := fun (y0 y1 y2 y3 : Value) => oldS ((((((((h18).set 0 y0).set 1 y1).set 2 y2).set 3 y3)).pull 5).pull 5); have SD2 := fun (y0 y1 y2 y3 : Value) (c1 : Array Value) (q1 : TypeId) => oldS (((((((((h18).set 0 y0).set 1 y1).set 2 y2).set 3 y3)).alloc (.cells c1 q1)).pull 6).pull 6); have nt0 := (h18.pull 0).cell 0; have nt1 := (h18.pull 0).cell 1; have nt2 := (h18.pull 0).cell 2; have nt3 := (h18.pull 0).cell 3; have ntf0 := (h18.pull 0).free 0; have ntf1 := (h18.pull 0).free 1; have ntf2 := (h18.pull 0).free 2; have ntf3 := (h18.pull 0).free 3; simp at nt0 nt1 nt2 nt3; have ntl := (h18.pull 0).lt; have hB1 := h18)
           | (go_at_call 43; (with_reducible refine zcb_a.mono ?_); rintro e w17 ⟨ok, v1, o1, o2, o3, o4, m1, m2, m3, m4, d1, d2, d3, d4, AK2, FK2, AS2, FS2, rfl, hOR, h17, k17⟩; have h18 := ((h17).pull 4).pull 4; have kF := ((kS.alloc (.cells #[.int .i64 0, .int .i64 0, .int .i64 0, .int .i64 0, .int .i64 0] 58))).trans k17; have SB := oldS (((h18).pull 6).pull 6); have SB1 := fun (c1 : Array Value) (q1 : TypeId) => oldS ((((h18).alloc (.cells c1 q1)).pull 7).pull 7); have SB2 := fun (c1 : Array Value) (q1 : TypeId) (c2 : Array Value) (q2 : TypeId) => oldS (((((h18).alloc (.cells c1 q1)).alloc (.cells c2 q2)).pull 8).pull 8); have SC1 := fun (x0 x1 x2 x3 x4 : Value) => oldS (((((((((h18).set 0 x0).set 1 x1).set 2 x2).set 3 x3).set 4 x4)).pull 6).pull 6); have SC2 := fun (x0 x1 x2 x3 x4 : Value) (c1 : Array Value) (q1 : TypeId) => oldS ((((((((((h18).set 0 x0).set 1 x1).set 2 x2).set 3 x3).set 4 x4)).alloc (.cells c1 q1)).pull 7).pull 7); have nv0 := (h18.pull 0).cell 0; have nv1 := (h18.pull 0).cell 1; have nv2 := (h18.pull 0).cell 2; have nv3 := (h18.pull 0).cell 3; have nv4 := (h18.pull 0).cell 4; have nvf0 := (h18.pull 0).free 0; have nvf1 := (h18.pull 0).free 1; have nvf2 := (h18.pull 0).free 2; have nvf3 := (h18.pull 0).free 3; have nvf4 := (h18.pull 0).free 4; simp at nv0 nv1 nv2 nv3 nv4; have nvl := (h18.pull 0).lt; have SD1 := fun (y0 y1 y2 y3 : Value) => oldS (((((((((h18).pull 1).set 0 y0).set 1 y1).set 2 y2).set 3 y3)).pull 6).pull 6); have SD2 := fun (y0 y1 y2 y3 : Value) (c1 : Array Value) (q1 : TypeId) => oldS ((((((((((h18).pull 1).set 0 y0).set 1 y1).set 2 y2).set 3 y3)).alloc (.cells c1 q1)).pull 7).pull 7); have nt0 := (h18.pull 1).cell 0; have nt1 := (h18.pull 1).cell 1; have nt2 := (h18.pull 1).cell 2; have nt3 := (h18.pull 1).cell 3; have ntf0 := (h18.pull 1).free 0; have ntf1 := (h18.pull 1).free 1; have ntf2 := (h18.pull 1).free 2; have ntf3 := (h18.pull 1).free 3; simp at nt0 nt1 nt2 nt3; have ntl := (h18.pull 1).lt; have SC3 := fun (x0 x1 x2 x3 x4 : Value) (y0 y1 y2 y3 : Value) => oldS (((((((((((((((h18).set 0 x0).set 1 x1).set 2 x2).set 3 x3).set 4 x4)).pull 1).set 0 y0).set 1 y1).set 2 y2).set 3 y3)).pull 6).pull 6); have nne := h18.ne; have nne' := nne.symm; have hAB := h18)
           | (go_at_call 43; (with_reducible refine zcba_0.mono ?_); rintro e w17 ⟨ok, v1, o1, o2, o3, o4, m1, m2, m3, m4, d1, d2, d3, d4, AK2, FK2, AS2, FS2, rfl, hOR, h17, k17⟩; have h18 := ((h17).pull 4).pull 4; have kF := (kS).trans k17; have SB := oldS (((h18).pull 6).pull 6); have SB1 := fun (c1 : Array Value) (q1 : TypeId) => oldS ((((h18).alloc (.cells c1 q1)).pull 7).pull 7); have SB2 := fun (c1 : Array Value) (q1 : TypeId) (c2 : Array Value) (q2 : TypeId) => oldS (((((h18).alloc (.cells c1 q1)).alloc (.cells c2 q2)).pull 8).pull 8); have SC1 := fun (x0 x1 x2 x3 x4 : Value) => oldS (((((((((h18).set 0 x0).set 1 x1).set 2 x2).set 3 x3).set 4 x4)).pull 6).pull 6); have SC2 := fun (x0 x1 x2 x3 x4 : Value) (c1 : Array Value) (q1 : TypeId) => oldS ((((((((((h18).set 0 x0).set 1 x1).set 2 x2).set 3 x3).set 4 x4)).alloc (.cells c1 q1)).pull 7).pull 7); have nv0 := (h18.pull 0).cell 0; have nv1 := (h18.pull 0).cell 1; have nv2 := (h18.pull 0).cell 2; have nv3 := (h18.pull 0).cell 3; have nv4 := (h18.pull 0).cell 4; have nvf0 := (h18.pull 0).free 0; have nvf1 := (h18.pull 0).free 1; have nvf2 := (h18.pull 0).free 2; have nvf3 := (h18.pull 0).free 3; have nvf4 := (h18.pull 0).free 4; simp at nv0 nv1 nv2 nv3 nv4; have nvl := (h18.pull 0).lt; have SD1 := fun (y0 y1 y2 y3 : Value) => oldS (((((((((h18).pull 1).set 0 y0).set 1 y1).set 2 y2).set 3 y3)).pull 6).pull 6); have SD2 := fun (y0 y1 y2 y3 : Value) (c1 : Array Value) (q1 : TypeId) => oldS ((((((((((h18).pull 1).set 0 y0).set 1 y1).set 2 y2).set 3 y3)).alloc (.cells c1 q1)).pull 7).pull 7); have nt0 := (h18.pull 1).cell 0; have nt1 := (h18.pull 1).cell 1; have nt2 := (h18.pull 1).cell 2; have nt3 := (h18.pull 1).cell 3; have ntf0 := (h18.pull 1).free 0; have ntf1 := (h18.pull 1).free 1; have ntf2 := (h18.pull 1).free 2; have ntf3 := (h18.pull 1).free 3; simp at nt0 nt1 nt2 nt3; have ntl := (h18.pull 1).lt; have SC3 := fun (x0 x1 x2 x3 x4 : Value) (y0 y1 y2 y3 : Value) => oldS (((((((((((((((h18).set 0 x0).set 1 x1).set 2 x2).set 3 x3).set 4 x4)).pull 1).set 0 y0).set 1 y1).set 2 y2).set 3 y3)).pull 6).pull 6); have nne := h18.ne; have nne' := nne.symm; have hAB := h18)))
         all_goals
           go_wp2_with fail
           go_meet
           case rel =>
             first
             | (have hq := nne; exact ⟨_, _, ok, v1, AK2, FK2, AS2, FS2, rfl, rfl, rfl, hOR, ((((((((((((hAB.set 0 _).set 1 _).set 2 _).set 3 _).set 4 _)).pull 1).set 0 _).set 1 _).set 2 _).set 3 _)).tail, (((((((((kF.setCell _ _).setCell _ _).setCell _ _).setCell _ _).setCell _ _).setCell _ _).setCell _ _).setCell _ _).setCell _ _)⟩)
             | (have hq := hA1; exact ⟨_, _, ok, v1, AK2, FK2, AS2, FS2, rfl, rfl, rfl, hOR, (((((((hA1.set 0 _).set 1 _).set 2 _).set 3 _).set 4 _)).alloc _).tail, (((((kF.setCell _ _).setCell _ _).setCell _ _).setCell _ _).setCell _ _).alloc _⟩)
             | (have hq := hB1; exact ⟨_, _, ok, v1, AK2, FK2, AS2, FS2, rfl, rfl, rfl, hOR, vgD (((((hB1.set 0 _).set 1 _).set 2 _).set 3 _)).tail (by simp only [World.size_setCell]), ((((kF.setCell _ _).setCell _ _).setCell _ _).setCell _ _).alloc _⟩)
             | exact ⟨_, _, ok, v1, AK2, FK2, AS2, FS2, rfl, rfl, rfl, hOR, vgA1 hN, (kF.alloc _).alloc _⟩
             | exact ⟨_, _, ok, v1, AK2, FK2, AS2, FS2, rfl, rfl, rfl, hOR, vgA2 hN, (kF.alloc _).alloc _⟩
       case rest =>
         clear zs0 zsa zsab zsb zsba h15 k14
         obtain ⟨X, Y, ok, v1, AK2, FK2, AS2, FS2, rfl, rfl, rfl, hOR, h18, k18⟩ := hcut
         obtain ⟨hle, L2, GK2, GS2, tK2, tS2, hMI⟩ := HMI.out.next (by omega) hOR
         have HMI2 := Lib.hid hMI
         have HB2 := Lib.hid (HB.out.mono hle)
         have HI2 := Lib.hid (G3.out.mono hle)
         clear hMI hle hOR
         cases ok with
         | false =>
           go_wp2_with fail
           go_roundw
           case rel => exact ⟨i + 1, giveF sl.k sl.lh sl.rh D', L2, u, AK2, FK2, AS2, FS2, GK2, GS2, tK2, tS2, by go_num, by omega, HB2, HI2, G4, HMI2, (((((((((h18).tail).pull 4).tail).pull 5).tail).pull 5).tail).pull 3).pull 4, k18⟩
           case measure => simp [intOf]; omega
         | true =>
           have x0 := (h18).cell 0
           have x1 := (h18).cell 1
           have x2 := (h18).cell 2
           have x3 := (h18).cell 3
           have x4 := (h18).cell 4
           simp at x0 x1 x2 x3 x4
           have u0 := (h18.pull 4).cell 0
           have u1 := (h18.pull 4).cell 1
           have u2 := (h18.pull 4).cell 2
           have u3 := (h18.pull 4).cell 3
           have u4 := (h18.pull 4).cell 4
           have uf0 := (h18.pull 4).free 0
           have uf1 := (h18.pull 4).free 1
           have uf2 := (h18.pull 4).free 2
           have uf3 := (h18.pull 4).free 3
           have uf4 := (h18.pull 4).free 4
           simp at u0 u1 u2 u3 u4
           have hul := (h18.pull 4).lt
           have hne := (h18.pull 4).ne
           have hne' := hne.symm
           have h19 := ((((((h18.pull 4).set 0 (.int .i64 v1.n)).set 1 (.int .i64 v1.ks)).set 2 (.int .i64 v1.kg)).set 3 (.int .i64 v1.ss)).set 4 (.int .i64 v1.sg))
           have k19 := (((((k18.setCell ⟨U, 0, none⟩ (.int .i64 v1.n)).setCell ⟨U, 1, none⟩ (.int .i64 v1.ks)).setCell ⟨U, 2, none⟩ (.int .i64 v1.kg)).setCell ⟨U, 3, none⟩ (.int .i64 v1.ss)).setCell ⟨U, 4, none⟩ (.int .i64 v1.sg))
           go_wp2_with fail
           go_roundw
           case rel => exact ⟨i + 1, giveF sl.k sl.lh sl.rh D', L2, v1, AK2, FK2, AS2, FS2, GK2, GS2, tK2, tS2, by go_num, by omega, HB2, HI2, G4, HMI2, (((((((((h19).pull 1).tail).pull 4).tail).pull 5).tail).pull 5).tail).pull 4, k19⟩
           case measure => simp [intOf]; omega
   · rw [hm] at hwa
     have hD := HI'.out.end hno
     rw [hD.want] at hwa
     simp only [Hd.nil] at hwa
     have HD := Lib.hid hD
     have HNO := Lib.hid hno
     clear hm hno hD
     go_wp2_with fail
     refine hwa.mono ?_
     rintro x w8 ⟨rfl, h8, k8⟩
     clear hwa
     have k8 := k7.trans k8
     have h9 := h8.alloc (.cells #[.int .i64 0, .int .i64 0] 56)
     have k9 := k8.alloc (.cells #[.int .i64 0, .int .i64 0] 56)
     have han := find_answer (h9.pull 1) HNO.out (by rw [HD.out.ans]; exact Nat.le_trans (kidsA_len _ _ _ _) (Nat.le_trans HF.out.2.2.2.2.1 (by decide)))
     rw [HD.out.er, HD.out.ver, HD.out.node, HD.out.ans, HF.out.2.2.2.2.2, kidsA_same HF.out.2.2.1 HF.out.2.1] at han
     clear h8 k8 h9 k7
     go_wp2_with fail
     refine han.mono ?_
     rintro x w10 ⟨ko, kn, kc, rfl, h10, k10⟩
     clear han
     have k10 := k9.trans k10
     have hra := ref_answer (num := 5) (list := list) (path := path) (h10.pull 9) HF.out.2.1 (Nat.le_trans HF.out.2.2.2.1 (by decide))
     clear h10 k9
     go_wp2_with fail
     refine hra.mono ?_
     rintro x w11 ⟨a', e', v', hA', rfl, h11, k11⟩
     clear hra
     obtain ⟨rfl, rfl⟩ := hA'.uniq HF.out.1
     have k11 := k10.trans k11
     have hsa := ans_same (e := e') (ver := 5) (node := a') h11.swap (Nat.le_trans (kidsA_len _ _ _ _) (Nat.le_trans HF.out.2.2.2.1 (by decide)))
     clear h11 k10
     go_wp2_with fail
     refine hsa.mono ?_
     rintro x w12 ⟨rfl, h12, k12⟩
     clear hsa
     have k12 := k11.trans k12
     go_wp2_with fail
     exact bodyPost_ret (v := .bool true) (by simp [results, Tryz.results7, go_sem]) rfl ⟨rfl, (h12.pull 8).below k12⟩
end Go.Proofs.YtddglbjhhnipgaaGreatDoor

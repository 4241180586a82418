import Derived.Test.YtddglbjhhnipgaaGreatDoorIQ
import Derived.Test.YtddglbjhhnipgaaGreatDoorIS
import Derived.Test.YtddglbjhhnipgaaGreatDoorJA
namespace Go.Proofs.YtddglbjhhnipgaaGreatDoor
open Go Go.RowKit
set_option linter.unusedVariables false
set_option linter.unusedSimpArgs false
set_option maxRecDepth 100000
set_option maxHeartbeats 8000000
/-! ### how many nodes a list looks at -/
theorem below_len_node (a : Int) {h : Option Hd} {k : KidD} {b : Bool} {l r : HTK} {hi : Int} : (belowT a (.node h k b l r hi)).length = (belowT a l).length + ((if k.up = a then 1 else 0) + (belowT a r).length) := by
 rw [below_node, List.length_append, List.length_append]
 split <;> rfl
theorem thr_both {A : List SlotK} {L : List KidD} (a : Int) : ∀ {t : HTK}, SubT A L t → (∀ y ∈ keysT t, y.up = a) → thrN a t ≤ (belowT a t).length
 | .leaf, _, _ => Nat.le_refl _
 | .node o k b l r hi, s, h => by
   have hk := h k (by rw [keys_node]; simp)
   have h1 := thr_both a s.left fun y hy => h y (by rw [keys_node]; exact List.mem_append_left _ hy)
   have h2 := thr_both a s.right fun y hy => h y (by rw [keys_node]; exact List.mem_append_right _ (List.mem_cons_of_mem _ hy))
   rw [below_len_node, if_pos hk]
   simp only [thrN]
   rw [if_pos (by omega), if_pos (by omega)]
   omega
theorem thr_low {A : List SlotK} {L : List KidD} (a : Int) : ∀ {t : HTK}, SubT A L t → (∀ y ∈ keysT t, a ≤ y.up) → (thrN a t : Int) ≤ (belowT a t).length + t.high
 | .leaf, _, _ => Int.le_refl _
 | .node o k b l r hi, s, h => by
   have hk := h k (by rw [keys_node]; simp)
   have gl := fun y hy => h y (by rw [keys_node]; exact List.mem_append_left _ hy)
   have gr := fun y hy => h y (by rw [keys_node]; exact List.mem_append_right _ (List.mem_cons_of_mem _ hy))
   have hh : (HT.node o k b l r hi : HTK).high = 1 + max l.high r.high := s.hi.1
   have pl := s.left.hi.pos.1
   have pr := s.right.hi.pos.1
   rw [below_len_node, hh]
   simp only [thrN]
   rw [if_pos hk]
   by_cases e : k.up = a
   · have h1 := thr_both a s.left fun y hy => by
       have := gl y hy
       rcases s.lt.1 y hy with g | ⟨g, _⟩ <;> omega
     have h2 := thr_low a s.right gr
     rw [if_pos (by omega), if_pos e]
     omega
   · have h1 := thr_low a s.left gl
     rw [if_neg (by omega), if_neg e]
     omega
theorem thr_top {A : List SlotK} {L : List KidD} (a : Int) : ∀ {t : HTK}, SubT A L t → (∀ y ∈ keysT t, y.up ≤ a) → (thrN a t : Int) ≤ (belowT a t).length + t.high
 | .leaf, _, _ => Int.le_refl _
 | .node o k b l r hi, s, h => by
   have hk := h k (by rw [keys_node]; simp)
   have gl := fun y hy => h y (by rw [keys_node]; exact List.mem_append_left _ hy)
   have gr := fun y hy => h y (by rw [keys_node]; exact List.mem_append_right _ (List.mem_cons_of_mem _ hy))
   have hh : (HT.node o k b l r hi : HTK).high = 1 + max l.high r.high := s.hi.1
   have pl := s.left.hi.pos.1
   have pr := s.right.hi.pos.1
   rw [below_len_node, hh]
   simp only [thrN]
   rw [if_pos (c := k.up ≤ a) hk]
   by_cases e : k.up = a
   · have h1 := thr_both a s.right fun y hy => by
       have := gr y hy
       rcases s.lt.2.1 y hy with g | ⟨g, _⟩ <;> omega
     have h2 := thr_top a s.left gl
     rw [if_pos (by omega), if_pos e]
     omega
   · have h1 := thr_top a s.right gr
     rw [if_neg (by omega), if_neg e]
     omega
theorem thr_any {A : List SlotK} {L : List KidD} (a : Int) : ∀ {t : HTK}, SubT A L t → (thrN a t : Int) ≤ (belowT a t).length + 2 * t.high
 | .leaf, _ => Int.le_refl _
 | .node o k b l r hi, s => by
   have hh : (HT.node o k b l r hi : HTK).high = 1 + max l.high r.high := s.hi.1
   have pl := s.left.hi.pos.1
   have pr := s.right.hi.pos.1
   rw [below_len_node, hh]
   simp only [thrN]
   by_cases e : k.up = a
   · have h1 := thr_top a s.left fun y hy => by rcases s.lt.1 y hy with g | ⟨g, _⟩ <;> omega
     have h2 := thr_low a s.right fun y hy => by rcases s.lt.2.1 y hy with g | ⟨g, _⟩ <;> omega
     rw [if_pos (by omega), if_pos (by omega), if_pos e]
     omega
   · by_cases e2 : a ≤ k.up
     · have h1 := thr_any a s.left
       rw [if_pos e2, if_neg (by omega), if_neg e]
       omega
     · have h1 := thr_any a s.right
       rw [if_neg e2, if_pos (by omega), if_neg e]
       omega
/-! ### how many nodes were wanted -/
theorem below_all {f : Int → Option Loc} {L : List KidD} {A : List SlotK} {T : HTK} {v : VerD} (hB : BaseV f L A T v) (a : Int) : (belowT a T).length = (L.filter fun k => k.up == a).length := by
 have n1 : (keysT T).Nodup := by
   have := hB.sub.srt
   unfold Srt at this
   unfold keysT
   rw [List.Nodup, List.pairwise_map]
   exact this.imp (fun {x y} (hxy : kord x.1 y.1 < 0) (e : x.1 = y.1) => kL_irr y.1 (by have := (kord_neg _ _).1 hxy; rwa [e] at this))
 have n2 : L.Nodup := nodup_of_map KidD.node hB.enum.nodup
 have hp : (keysT T).Perm L := (List.perm_ext_iff_of_nodup n1 n2).2 fun y => ⟨hB.sub.sub y, hB.all y⟩
 exact (hp.filter _).length_eq
theorem few_bound {f : Int → Option Loc} {L : List KidD} {A : List SlotK} {T : HTK} {v : VerD} {list : Bool} {N : Nat} {a e : Int} {D : FindD} (hB : BaseV f L A T v) (h : FinD L T list v N a e D) :
   D.loads ≤ N * T.high + (if list = true then 2 * T.high + D.kids.length else 0) := by
 have h1 := h.loads
 have h2 := hB.sub.hi.pos.1
 have h3 := thr_any a hB.sub
 rw [below_all hB a] at h3
 cases list with
 | false => simpa using h1
 | true =>
   rw [if_pos rfl]
   by_cases he : e = 0
   · have hk : (D.kids.length : Int) = (L.filter fun k => k.up == a).length := by rw [h.kids, if_pos ⟨rfl, he⟩, (isort_perm klt _).length_eq]
     rw [if_pos ⟨rfl, he⟩] at h1
     omega
   · rw [if_neg (fun h => he h.2)] at h1
     have : (0 : Int) ≤ D.kids.length := by omega
     omega
theorem load_root {w : World} {l : List HProp} {m : Nat} {most : Int} {A : List SlotK} {F : List Int} {T : HTK} (hs : Sat w (mapK m most A F :: l)) (hR : RepO A T) :
   Calls Tryz.prog 40 #[.pointer (some ⟨m, 0, none⟩), .agg #[.int .i64 T.root.s, .int .i64 T.root.g]] w fun e w' => ∃ k b lh rh bb, e = .returned (.tuple #[.agg (nodC k b lh rh T.high), .bool bb]) ∧ Sat w' (mapK m most A F :: l) ∧ Kp w w' := by
 cases T with
 | leaf => exact (mapK_load_no (h := HT.root (.leaf : HTK)) hs RepO.noleafK).mono fun e w' ⟨h1, h2, h3⟩ => ⟨⟨0, ⟨#[]⟩, 0⟩, false, ⟨0, 0⟩, ⟨0, 0⟩, false, h1, h2, h3⟩
 | node o k b lt rt hi =>
   obtain ⟨⟨hd, e1, s, g1, g2, g3, g4, g5, g6⟩, _⟩ := hR
   subst e1
   exact (mapK_load (h := hd) hs g1).mono fun e w' ⟨h1, h2, h3⟩ => ⟨s.k, s.v, s.lh, s.rh, true, by rw [h1, ← g6]; rfl, h2, h3⟩
theorem load2g {w : World} {l : List HProp} {X : HProp} {Q : Nat} {k : KidD} {b : Bool} {lh rh : Hd} {hi : Int} (h : Sat w (X :: own Q (.cells #[.int .i64 0, .string ⟨#[]⟩, .int .i64 0, .bool false, .int .i64 0, .int .i64 0, .int .i64 0, .int .i64 0, .int .i64 0] 75 (0, 0)) :: l)) :
   Sat (World.putCells w Q 0 [.int .i64 k.up, .string k.name, .int .i64 k.node, .bool b, .int .i64 lh.s, .int .i64 lh.g, .int .i64 rh.s, .int .i64 rh.g, .int .i64 hi]) (own Q (.cells (nodC k b lh rh hi) 75 (0, 0)) :: X :: l) :=
 Sat.putAll (c := #[.int .i64 0, .string ⟨#[]⟩, .int .i64 0, .bool false, .int .i64 0, .int .i64 0, .int .i64 0, .int .i64 0, .int .i64 0]) [.int .i64 k.up, .string k.name, .int .i64 k.node, .bool b, .int .i64 lh.s, .int .i64 lh.g, .int .i64 rh.s, .int .i64 rh.g, .int .i64 hi] rfl (h.pull 1)
theorem kidsA_len (L : List KidD) (list : Bool) (a e : Int) : (kidsA L list a e).length ≤ L.length := by
 unfold kidsA
 split
 · rw [(isort_perm klt _).length_eq]; exact List.length_filter_le _ _
 · exact Nat.zero_le _
theorem least_node : ∀ {l : List KidD}, l ≠ [] → ∃ x ∈ l, ∀ y ∈ l, x.node ≤ y.node
 | [], h => absurd rfl h
 | [x], _ => ⟨x, by simp, fun y hy => by obtain rfl := List.mem_singleton.1 hy; exact Int.le_refl _⟩
 | x :: z :: l, _ => by
   obtain ⟨m, hm, hle⟩ := least_node (l := z :: l) (by simp)
   by_cases h : x.node ≤ m.node
   · refine ⟨x, by simp, fun y hy => ?_⟩
     rcases List.mem_cons.1 hy with rfl | hy
     · exact Int.le_refl _
     · have := hle y hy; omega
   · refine ⟨m, List.mem_cons_of_mem _ hm, fun y hy => ?_⟩
     rcases List.mem_cons.1 hy with rfl | hy
     · omega
     · exact hle y hy
theorem findR_ex {f : Int → Option Loc} {L : List KidD} (hE : EnumK f L) : ∀ (l : List ByteArray) (n : Int), ∃ a e, FindR f n l a e
 | [], n => ⟨n, 0, rfl, rfl⟩
 | s :: l, n => by
   by_cases h : ∃ k, f k = some ⟨n, s⟩
   · obtain ⟨k0, hk0⟩ := h
     have hne : (L.filter fun k => decide (k.up = n ∧ k.name = s)) ≠ [] := fun e => by
       have := (List.filter_eq_nil_iff.1 e) _ (hE.all k0 _ hk0)
       simp at this
     obtain ⟨x, hx, hle⟩ := least_node hne
     obtain ⟨h1, h2⟩ := List.mem_filter.1 hx
     simp only [decide_eq_true_eq] at h2
     obtain ⟨a, e, hr⟩ := findR_ex hE l x.node
     have hm := hE.mem x h1
     rw [h2.1, h2.2] at hm
     exact ⟨a, e, .inr ⟨x.node, hm, fun k' hk' => hle _ (List.mem_filter.2 ⟨hE.all k' _ hk', by simp⟩), hr⟩⟩
   · exact ⟨0, 9, .inl ⟨rfl, rfl, fun k hk => h ⟨k, hk⟩⟩⟩
theorem findA_ex {f : Int → Option Loc} {L : List KidD} (hE : EnumK f L) (path : ByteArray) : ∃ a e, FindA f path a e := by
 cases hp : pathL path with
 | none => exact ⟨0, 4, .inl ⟨hp, rfl, rfl⟩⟩
 | some nms =>
   obtain ⟨a, e, h⟩ := findR_ex hE nms 0
   exact ⟨a, e, .inr ⟨nms, hp, h⟩⟩
theorem finderFinds_walk (ao : Option Addr) (n cap : Nat) (ts : List TinyD) (num : Int) (list : Bool) (path : ByteArray) (W : World) (hr : ArgRow W fT ao n cap ts) (hok : ∀ t ∈ ts, TinyOk t) (hT : Lib.Utf8Tabs (validS_ren.g 3) (validS_ren.g 4) W) :
   LawCalls Tryz.prog 4 #[.slice ao n cap, .int .i64 num, .bool list, .string path] W := by
 have H0 := Sat.start W
 have hle := hr.le
 have hsm := hr.small
 unfold maxLen at hsm
 have HL := Lib.hid hr.len
 have HT := Lib.hid hT
 have HR := Lib.hid hr
 have HOK := Lib.hid hok
 clear hT hr hok
 go_enter Tryz.func4, Tryz.ntmps4
 go_wp2_with fail
 refine (awake13 HT.out H0).mono ?_
 rintro e w1 ⟨rfl, h1, k1⟩
 clear H0
 by_cases hmost : 30 < n
 · have hmost' : (30 : Int) < (n : Int) := by omega
   clear hmost
   go_wp2_with fail
   go_ret
   exact ⟨rfl, h1.below k1⟩
 have hmost' : ¬ (30 : Int) < (n : Int) := by omega
 by_cases hlong : 500 < path.size
 · have hlong' : (500 : Int) < (path.size : Int) := by omega
   clear hlong
   go_wp2_with fail
   go_ret
   exact ⟨rfl, h1.below k1⟩
 have hlong' : ¬ (500 : Int) < (path.size : Int) := by omega
 have hgr := ver_grown (num := num) h1 HR.out HOK.out (by omega)
 clear h1
 go_wp2_with fail
 refine hgr.mono ?_
 rintro e w2 hQ
 clear hgr
 unfold GrownV at hQ
 obtain ⟨s, mk, ms, L, v, vl, AK, FK, AS, FS, GK, GS, tK, tS, ks, rfl, hE, hE2, hvn, hV, r1, r2, r3, r4, h2, k2⟩ := hQ
 have k2 := k1.trans k2
 have hg := grow_grown (ts.map ofT)
 generalize (growT (ts.map ofT)).1 = f at hE hE2 hg
 have h0 : f 0 = none := hg.low (by decide)
 have hpos : ∀ y ∈ ks, 0 ≤ y.node := fun y hy => by have := (hg.dom _ _ (hE2.mem y hy)).1; omega
 have hks8 : ks.length ≤ 8 := by
   have := nodup_le 8 256 (ks.map KidD.node) hE2.nodup (fun x hx => by
     obtain ⟨y, hy, rfl⟩ := List.mem_map.1 hx
     obtain ⟨h1, o, ho, h2⟩ := hg.dom y.node _ (hE2.mem y hy)
     obtain ⟨t, ht, rfl⟩ := List.mem_map.1 ho
     have h3 : 256 + t.node % 8 = y.node := h2
     omega)
   simpa using this
 have hL8 : L.length ≤ 8 := by rw [(enumk_perm hE hE2).length_eq]; exact hks8
 have hB := base_of hV hE2 hpos
 have hT8 : tK.size ≤ 8 := Nat.le_trans hV.zk hks8
 obtain ⟨a, er, hA⟩ := findA_ex hE path
 obtain ⟨N, hI, _⟩ := step_new list hB hA h0
 have HS := Lib.hid (And.intro hB (And.intro hks8 (And.intro hT8 hI)))
 have HF := Lib.hid (And.intro hA (And.intro hE (And.intro hE2 (And.intro hL8 (And.intro hks8 hvn)))))
 obtain ⟨lao, lcap, rfl, _⟩ := (h2.pull 3).poolArg (v := vl) (ks := L) (by simp)
 clear hE hE2 hg h0 hpos hks8 hL8 hB hT8 hA hI hV r1 r2 r3 r4 k1 hvn
 simp only [aggV]
 have h3 := h2.alloc (.cells #[.int .i64 v.n, .int .i64 v.ks, .int .i64 v.kg, .int .i64 v.ss, .int .i64 v.sg] 58)
 have k3 := k2.alloc (.cells #[.int .i64 v.n, .int .i64 v.ks, .int .i64 v.kg, .int .i64 v.ss, .int .i64 v.sg] 58)
 clear h2 k2
 go_upto_region 5 with (fail)
 generalize World.alloc _ _ = w3 at h3 k3 ⊢
 generalize w2.heap.size = V at h3 ⊢
 have v0 := (h3).cell 0
 have v1 := (h3).cell 1
 have v2 := (h3).cell 2
 have v3 := (h3).cell 3
 have v4 := (h3).cell 4
 simp at v0 v1 v2 v3 v4
 have hnw := find_new (v := v) (list := list) (path := path) HT.out (h3.pull 5)
 unfold aggV at hnw
 clear h3
 go_wp2_with fail
 refine hnw.mono ?_
 rintro e w4 ⟨fb, rfl, h4, k4⟩
 clear hnw
 have k4 := k3.trans k4
 clear k3 v0 v1 v2 v3 v4
 have hru := run_ok (AS := []) (FS := []) (((h4.pull 4).pull 4).pull 2) HS.out.1 HS.out.2.1 HS.out.2.2.1 HS.out.2.2.2
 clear h4 HS
 go_wp2_with fail
 refine hru.mono ?_
 rintro e w5 ⟨rfl, D, hD, h5, k5⟩
 clear hru
 have k5 := k4.trans k5
 clear k4
 have hwa := find_want_no h5 hD.next
 rw [hD.want] at hwa
 have HD := Lib.hid hD
 clear h5 hD
 go_wp2_with fail
 refine hwa.mono ?_
 rintro e w6 ⟨rfl, h6, k6⟩
 clear hwa
 have k6 := k5.trans k6
 clear k5
 simp only [Hd.nil]
 have h7 := h6.alloc (.cells #[.int .i64 0, .int .i64 0] 56)
 have k7 := k6.alloc (.cells #[.int .i64 0, .int .i64 0] 56)
 clear h6 k6
 go_upto_region 10 with (fail)
 generalize World.alloc _ _ = w7 at h7 k7 ⊢
 generalize w6.heap.size = H at h7 ⊢
 have h0 := (h7).cell 0
 have h1 := (h7).cell 1
 simp at h0 h1
 have han := find_answer (h7.pull 1) HD.out.next (by rw [HD.out.ans]; exact Nat.le_trans (kidsA_len _ _ _ _) (Nat.le_trans HF.out.2.2.2.2.1 (by decide)))
 rw [HD.out.er, HD.out.ver, HD.out.node, HD.out.ans, HF.out.2.2.2.2.2, kidsA_same HF.out.2.2.1 HF.out.2.1] at han
 clear h7
 go_wp2_with fail
 refine han.mono ?_
 rintro x w8 ⟨ko, kn, kc, rfl, h8, k8⟩
 clear han
 have k8 := k7.trans k8
 clear k7
 have hra := ref_answer (num := num) (list := list) (path := path) (h8.pull 8) HF.out.2.1 (Nat.le_trans HF.out.2.2.2.1 (by decide))
 clear h8
 go_wp2_with fail
 refine hra.mono ?_
 rintro x w9 ⟨a', e', v', hA', rfl, h9, k9⟩
 clear hra
 obtain ⟨rfl, rfl⟩ := hA'.uniq HF.out.1
 have k9 := k8.trans k9
 clear k8
 have hsa := ans_same (e := e') (ver := num) (node := a') h9.swap (Nat.le_trans (kidsA_len _ _ _ _) (Nat.le_trans HF.out.2.2.2.1 (by decide)))
 clear h9
 go_wp2_with fail
 refine hsa.mono ?_
 rintro x wA ⟨rfl, hA, kA⟩
 clear hsa
 have kA := k9.trans kA
 go_wp2_with fail
 go_ret
 exact ⟨rfl, (hA.pull 6).below kA⟩
end Go.Proofs.YtddglbjhhnipgaaGreatDoor

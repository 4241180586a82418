import Derived.Test.YtddglbjhhnipgaaGreatDoorHG
import Derived.Test.YtddglbjhhnipgaaGreatDoorGJ
import Derived.Laws.EntriesVeiled
import Derived.Lib.SliceRun
import Derived.Test.YtddglbjhhnipgaaGreatDoorIP
import Derived.Test.YtddglbjhhnipgaaGreatDoorGE
namespace Go.Proofs.YtddglbjhhnipgaaGreatDoor
open Go Go.RowKit
set_option linter.unusedVariables false
set_option linter.unusedSimpArgs false
set_option maxRecDepth 100000
set_option maxHeartbeats 8000000
/-! ### one who goes down a path -/
structure VerD where
 n : Int
 ks : Int
 kg : Int
 ss : Int
 sg : Int
def aggV (v : VerD) : Value := .agg #[.int .i64 v.n, .int .i64 v.ks, .int .i64 v.kg, .int .i64 v.ss, .int .i64 v.sg]
inductive Nx | no | down | through
def nxV (f : Nat) : Nx → Value
 | .no => .nilFunc
 | .down => .func (.func 102) #[.pointer (some ⟨f, 0, none⟩)] #[]
 | .through => .func (.func 103) #[.pointer (some ⟨f, 0, none⟩)] #[]
structure FindD where
 v : VerD
 list : Bool
 names : List ByteArray
 at' : Int
 want : Hd
 next : Nx
 met : Int
 found : Bool
 stack : List Hd
 e : Int
 ver : Int
 node : Int
 kids : List KidD
 loads : Int
def findC (f : Nat) (D : FindD) (vn vs vk : Value) : Array Value := #[.int .i64 D.v.n, .int .i64 D.v.ks, .int .i64 D.v.kg, .int .i64 D.v.ss, .int .i64 D.v.sg, .bool D.list, vn, .int .i64 D.at', .int .i64 D.want.s, .int .i64 D.want.g, nxV f D.next, .int .i64 D.met, .bool D.found, vs, .int .i64 D.e, .int .i64 D.ver, .int .i64 D.node, vk, .slice none 0 0, .int .i64 D.loads]
def findP (f : Nat) (D : FindD) : HProp :=
 ex fun vn => ex fun vs => ex fun vk => all [own f (.cells (findC f D vn vs vk) 153 (0, 0)), rowT fSt vn 9 1 D.names, rowT fH vs 56 2 D.stack, rowT fK vk 73 3 D.kids]
theorem findP_I {w : World} {l : List HProp} {f : Nat} {D : FindD} {vn vs vk : Value} (hs : Sat w (own f (.cells (findC f D vn vs vk) 153 (0, 0)) :: rowT fSt vn 9 1 D.names :: rowT fH vs 56 2 D.stack :: rowT fK vk 73 3 D.kids :: l)) : Sat w (findP f D :: l) := Sat.exI vn (Sat.exI vs (Sat.exI vk (Sat.allI hs)))
theorem findP_E {w : World} {l : List HProp} {f : Nat} {D : FindD} (hs : Sat w (findP f D :: l)) :
   ∃ vn vs vk, Sat w (own f (.cells (findC f D vn vs vk) 153 (0, 0)) :: rowT fSt vn 9 1 D.names :: rowT fH vs 56 2 D.stack :: rowT fK vk 73 3 D.kids :: l) := by
 obtain ⟨a, h⟩ := hs.exE
 obtain ⟨b, h⟩ := h.exE
 obtain ⟨c, h⟩ := h.exE
 exact ⟨a, b, c, h.allE⟩
theorem split_root {w : World} {l : List HProp} (hs : Sat w l) :
   Calls Tryz.prog 38 #[.string ⟨#[47]⟩] w fun e w' => e = .returned (.tuple #[.slice none 0 0, .int .i64 0]) ∧ w = w' := by
 go_enter Tryz.func38, Tryz.ntmps38
 go_wp2_with fail
 refine (prefix_yes ⟨#[47]⟩ (r := []) rfl).mono ?_
 rintro e w1 ⟨rfl, rfl⟩
 go_wp2_with fail
 exact bodyPost_ret (v := .tuple #[.slice none 0 0, .int .i64 0]) (by simp [results, Tryz.results38, go_sem]) rfl ⟨rfl, rfl⟩
/-- Finder's end. -/
def endF (e : Int) (D : FindD) : FindD := if e = 0 then { D with want := Hd.nil, next := .no, e := 0, ver := D.v.n, node := D.at' } else { D with want := Hd.nil, next := .no, e := e, ver := D.v.n }
theorem find_end {w : World} {l : List HProp} {f : Nat} {D : FindD} {e : Int} (hs : Sat w (findP f D :: l)) (h11 : e ≠ 11) :
   Calls Tryz.prog 74 #[.pointer (some ⟨f, 0, none⟩), .int .i64 e] w fun x w' => x = .returned (.tuple #[]) ∧ Sat w' (findP f (endF e D) :: l) ∧ Kp w w' := by
 obtain ⟨vn, vs, vk, h1⟩ := findP_E hs
 have f0 := (h1).cell 0
 have f3 := (h1).cell 3
 have f7 := (h1).cell 7
 have f8 := (h1).cell 8
 have f9 := (h1).cell 9
 have f10 := (h1).cell 10
 have f14 := (h1).cell 14
 have f15 := (h1).cell 15
 have f16 := (h1).cell 16
 have f17 := (h1).cell 17
 have f18 := (h1).cell 18
 have ff0 := (h1).free 0
 have ff3 := (h1).free 3
 have ff7 := (h1).free 7
 have ff8 := (h1).free 8
 have ff9 := (h1).free 9
 have ff10 := (h1).free 10
 have ff14 := (h1).free 14
 have ff15 := (h1).free 15
 have ff16 := (h1).free 16
 have ff17 := (h1).free 17
 have ff18 := (h1).free 18
 simp [findC] at f0 f3 f7 f8 f9 f10 f14 f15 f16 f17 f18
 have hfl := h1.lt
 have h2 := ((((h1.set 8 (.int .i64 0)).set 9 (.int .i64 0)).set 10 .nilFunc).set 14 (.int .i64 e)).set 15 (.int .i64 D.v.n)
 have k2 := (((((Kp.refl w).setCell ⟨f, 8, none⟩ (.int .i64 0)).setCell ⟨f, 9, none⟩ (.int .i64 0)).setCell ⟨f, 10, none⟩ .nilFunc).setCell ⟨f, 14, none⟩ (.int .i64 e)).setCell ⟨f, 15, none⟩ (.int .i64 D.v.n)
 by_cases h0 : e = 0
 · subst h0
   have h3 := h2.set 16 (.int .i64 D.at')
   have k3 := k2.setCell ⟨f, 16, none⟩ (.int .i64 D.at')
   have he : endF 0 D = { D with want := Hd.nil, next := .no, e := 0, ver := D.v.n, node := D.at' } := by simp [endF]
   rw [he]
   go_enter Tryz.func74, Tryz.ntmps74
   go_wp2_with fail
   go_end0
   exact ⟨rfl, findP_I (D := { D with want := Hd.nil, next := .no, e := 0, ver := D.v.n, node := D.at' }) h3, k3⟩
 · have he : endF e D = { D with want := Hd.nil, next := .no, e := e, ver := D.v.n } := by simp [endF, h0]
   rw [he]
   go_enter Tryz.func74, Tryz.ntmps74
   go_wp2_with fail
   go_end0
   exact ⟨rfl, findP_I (D := { D with want := Hd.nil, next := .no, e := e, ver := D.v.n }) h2, k2⟩
theorem find_segment_done {w : World} {l : List HProp} {f : Nat} {D : FindD} (hs : Sat w (findP f D :: l)) (hn : D.names = []) (hl : D.list = false) :
   Calls Tryz.prog 75 #[.pointer (some ⟨f, 0, none⟩)] w fun x w' => x = .returned (.tuple #[]) ∧ Sat w' (findP f (endF 0 { D with met := 0, found := false }) :: l) ∧ Kp w w' := by
 obtain ⟨vn, vs, vk, h1⟩ := findP_E hs
 obtain ⟨nao, ncap, hv⟩ := (h1.pull 1).tLen
 rw [hn] at hv
 simp only [List.length_nil] at hv
 subst hv
 have h2 := (h1.set 11 (.int .i64 0)).set 12 (.bool false)
 have k2 := ((Kp.refl w).setCell ⟨f, 11, none⟩ (.int .i64 0)).setCell ⟨f, 12, none⟩ (.bool false)
 have h3 := findP_I (D := { D with met := 0, found := false }) h2
 have f5 := (h1).cell 5
 have f6 := (h1).cell 6
 have f11 := (h1).cell 11
 have f12 := (h1).cell 12
 have ff5 := (h1).free 5
 have ff6 := (h1).free 6
 have ff11 := (h1).free 11
 have ff12 := (h1).free 12
 simp [findC, hl] at f5 f6 f11 f12
 have hfl := h1.lt
 have he := find_end h3 (e := 0) (by decide)
 have HE := Lib.hid he
 have KE := Lib.hid k2
 clear h1 h2 h3 k2 he hs
 go_enter Tryz.func75, Tryz.ntmps75
 go_wp2_with fail
 refine HE.out.mono ?_
 rintro e w1 ⟨rfl, h4, k4⟩
 go_wp2_with fail
 go_end0
 exact ⟨rfl, h4, KE.out.trans k4⟩
def newF (v : VerD) (list : Bool) (names : List ByteArray) : FindD := ⟨v, list, names, 0, Hd.nil, .no, 0, false, [], 0, 0, 0, [], 0⟩
theorem find_new_root {w : World} {l : List HProp} {v : VerD} (hs : Sat w l) :
   Calls Tryz.prog 33 #[.bool false, .string ⟨#[47]⟩, aggV v] w fun x w' => ∃ f, x = .returned (.pointer (some ⟨f, 0, none⟩)) ∧ Sat w' (findP f (endF 0 (newF v false [])) :: l) ∧ Kp w w' := by
 have hs1 := ((hs.tNil fK 73 3).tNil fH 56 2).tNil fSt 9 1
 have hB := hs1.alloc (.cells #[.int .i64 v.n, .int .i64 v.ks, .int .i64 v.kg, .int .i64 v.ss, .int .i64 v.sg] 58)
 have kB := (Kp.refl w).alloc (.cells #[.int .i64 v.n, .int .i64 v.ks, .int .i64 v.kg, .int .i64 v.ss, .int .i64 v.sg] 58)
 clear hs hs1
 unfold aggV
 go_enter Tryz.func33, Tryz.ntmps33
 go_upto_region 1 with (fail)
 generalize World.alloc _ _ = w1 at hB kB ⊢
 generalize w.heap.size = B at hB ⊢
 have b0 := (hB).cell 0
 have b1 := (hB).cell 1
 have b2 := (hB).cell 2
 have b3 := (hB).cell 3
 have b4 := (hB).cell 4
 simp at b0 b1 b2 b3 b4
 have hF := hB.alloc (.cells #[.int .i64 v.n, .int .i64 v.ks, .int .i64 v.kg, .int .i64 v.ss, .int .i64 v.sg, .bool false, .slice none 0 0, .int .i64 0, .int .i64 0, .int .i64 0, .nilFunc, .int .i64 0, .bool false, .slice none 0 0, .int .i64 0, .int .i64 0, .int .i64 0, .slice none 0 0, .slice none 0 0, .int .i64 0] 153)
 have kF := kB.alloc (.cells #[.int .i64 v.n, .int .i64 v.ks, .int .i64 v.kg, .int .i64 v.ss, .int .i64 v.sg, .bool false, .slice none 0 0, .int .i64 0, .int .i64 0, .int .i64 0, .nilFunc, .int .i64 0, .bool false, .slice none 0 0, .int .i64 0, .int .i64 0, .int .i64 0, .slice none 0 0, .slice none 0 0, .int .i64 0] 153)
 go_upto_region 2 with (fail)
 generalize World.alloc _ _ = w2 at hF kF ⊢
 generalize w1.heap.size = f at hF ⊢
 clear hB kB b0 b1 b2 b3 b4
 have f6 := (hF).cell 6
 have ff6 := (hF).free 6
 simp at f6
 have hfl := hF.lt
 go_wp2_with fail
 refine (split_root ((hF.pull 1).tail)).mono ?_
 rintro e w3 ⟨rfl, rfl⟩
 have h3 := findP_I (D := newF v false []) ((hF.pull 1).tail.set 6 (.slice none 0 0))
 have k3 := kF.setCell ⟨f, 6, none⟩ (.slice none 0 0)
 have hseg := find_segment_done h3 rfl rfl
 have HSEG := Lib.hid hseg
 clear hseg h3 hF
 go_wp2_with fail
 refine HSEG.out.mono ?_
 rintro e w4 ⟨rfl, h4, k4⟩
 go_wp2_with fail
 go_ret
 exact ⟨f, rfl, h4, k3.trans k4⟩
theorem find_want_no {w : World} {l : List HProp} {f : Nat} {D : FindD} (hs : Sat w (findP f D :: l)) (hn : D.next = .no) :
   Calls Tryz.prog 35 #[.pointer (some ⟨f, 0, none⟩)] w fun x w' => x = .returned (.tuple #[.agg #[.int .i64 D.want.s, .int .i64 D.want.g], .bool false]) ∧ Sat w' (findP f D :: l) ∧ Kp w w' := by
 obtain ⟨vn, vs, vk, h1⟩ := findP_E hs
 have hB := h1.alloc (.cells #[.int .i64 0, .int .i64 0] 56)
 have kB := (Kp.refl w).alloc (.cells #[.int .i64 0, .int .i64 0] 56)
 go_enter Tryz.func35, Tryz.ntmps35
 go_upto_region 1 with (fail)
 generalize World.alloc _ _ = w1 at hB kB ⊢
 generalize w.heap.size = B at hB ⊢
 have f8 := (hB.pull 1).cell 8
 have f9 := (hB.pull 1).cell 9
 have f10 := (hB.pull 1).cell 10
 simp [findC, hn, nxV] at f8 f9 f10
 have b0 := (hB).cell 0
 have b1 := (hB).cell 1
 have bf0 := (hB).free 0
 have bf1 := (hB).free 1
 simp at b0 b1
 have hbl := hB.lt
 have hfl := (hB.pull 1).lt
 have hne := hB.ne
 have hne2 := hne.symm
 have hnf := fun w => run_neq_fn0 (P := Tryz.prog) w Tryz.underlying151
 go_region_held3 (fun w' => w'.cell? ⟨f, 8, none⟩ = some (.int .i64 D.want.s) ∧ w'.cell? ⟨f, 9, none⟩ = some (.int .i64 D.want.g) ∧ w'.cell? ⟨f, 10, none⟩ = some .nilFunc) (first | go_keep | exact ⟨f8, f9, f10⟩) ((fail))
 all_goals
   have h2 := (((hB.set 0 (.int .i64 D.want.s)).set 1 (.int .i64 D.want.g))).drew
   go_wp2_with fail
   exact bodyPost_ret (v := .tuple #[.agg #[.int .i64 D.want.s, .int .i64 D.want.g], .bool false]) (by simp [results, Tryz.results35, go_sem, b0, b1, bf0, bf1]) rfl ⟨rfl, findP_I h2.tail, ((kB.setCell _ _).setCell _ _).drew⟩
theorem len_flatF {α : Type} {f : α → List Value} {size : Nat} (hf : ∀ x, (f x).length = size) : ∀ xs : List α, (xs.flatMap f).length = xs.length * size
 | [] => by simp
 | x :: xs => by rw [List.flatMap_cons, List.length_append, hf, len_flatF hf xs, List.length_cons, Nat.add_mul, Nat.one_mul, Nat.add_comm]
theorem Tryz.infoKidC : (Tryz.prog.info? 73).map (fun i => (i.zero, i.size, i.bytes)) = some (some (.agg #[.int .i64 0, .string ⟨#[]⟩, .int .i64 0]), 3, 32) := by kernel_rfl
theorem one_fK (xs : List KidD) : ∀ u ∈ xs.flatMap fK, u.oneCell' = true := by
 intro u hu
 obtain ⟨x, _, hx⟩ := List.mem_flatMap.1 hu
 simp only [fK, List.mem_cons, List.not_mem_nil, or_false] at hx
 rcases hx with rfl | rfl | rfl
 all_goals rfl
theorem clone_kids {w : World} {l : List HProp} {ws : List KidD} {v : Value} (hs : Sat w (rowT fK v 73 3 ws :: l)) (hm : ws.length ≤ 1000000) :
   Calls Tryz.prog 76 #[v] w fun e w' => ∃ vo, e = .returned vo ∧ Sat w' (rowT fK vo 73 3 ws :: rowT fK v 73 3 ws :: l) ∧ Kp w w' := by
 obtain ⟨i0, hi, hz0, hz1, hz2⟩ := info_parts Tryz.infoKidC
 have hnil : ∀ (W : World) (a : Option Addr) (n c n' c' : Nat), (binOp .eql 26 (.slice a n c) (.slice none n' c')).run Tryz.prog W = .ok (.bool a.isNone) W := fun W a n c n' c' => Lib.run_eql_slice_nil W _ _ a n c n' c' Tryz.underlying26
 rcases hs.tForm with ⟨rfl, rfl⟩ | ⟨g, off, cap, rfl⟩
 · go_enter Tryz.func76, Tryz.ntmps76
   go_wp2_with fail
   go_ret
   exact ⟨_, rfl, hs.tNil _ _ _, Kp.refl w⟩
 · have hE := hs.rowEmpty 73 3
   have hg := hs.rowBlock
   have hy : ∀ j u, (ws.flatMap fK)[j]? = some u → w.cell? ⟨g, off + j, none⟩ = some u := by
     intro j u hj
     have hlt := (List.getElem?_eq_some_iff.1 hj).1
     rw [len_flatF len_fK] at hlt
     rw [hs.rowCell j hlt]; exact hj
   go_enter Tryz.func76, Tryz.ntmps76
   go_wp2_with (at_builtin; refine wpList_append_row rfl (.tmp 5) (.tmp 6) 26 rfl 73 i0 _ 3 32 Tryz.underlying26 hi hz0 hz1 hz2 rfl (by decide) _ _ _ _ rfl hE ⟨g, off, none⟩ ws.length cap (ws.flatMap fK) rfl ?c0 ?c1 ?c2 ?c3 ?c4 ?c5)
   case c0 => rw [len_flatF len_fK]
   case c1 => intro j u hj; rw [Addr.add_lit, World.cell?_alloc_lt _ _ _ hg]; exact hy j u hj
   case c2 => exact one_fK _
   case c3 => unfold maxLen; omega
   case c4 => omega
   case c5 =>
     intro v' w1 hs1 hk
     go_wp2_with fail
     go_ret
     exact ⟨_, rfl, hs1.tOf ws (by simp) (by simp), ((Kp.refl w).alloc _).trans hk⟩
theorem find_answer {w : World} {l : List HProp} {f : Nat} {D : FindD} (hs : Sat w (findP f D :: l)) (hn : D.next = .no) (hk : D.kids.length ≤ 1000000) :
   Calls Tryz.prog 36 #[.pointer (some ⟨f, 0, none⟩)] w fun x w' => ∃ ao m cap, x = .returned (.agg #[.int .i64 D.e, .int .i64 D.ver, .int .i64 D.node, .slice ao m cap, .slice none 0 0]) ∧ Sat w' (rowT fK (.slice ao m cap) 73 3 D.kids :: findP f D :: l) ∧ Kp w w' := by
 obtain ⟨vn, vs, vk, h1⟩ := findP_E hs
 obtain ⟨kao, kcap, rfl⟩ := (h1.pull 3).tLen
 have hB := h1.alloc (.cells #[.int .i64 0, .int .i64 0, .int .i64 0, .slice none 0 0, .slice none 0 0] 28)
 have kB := (Kp.refl w).alloc (.cells #[.int .i64 0, .int .i64 0, .int .i64 0, .slice none 0 0, .slice none 0 0] 28)
 have hnf := fun w => run_neq_fn0 (P := Tryz.prog) w Tryz.underlying151
 clear h1 hs
 go_enter Tryz.func36, Tryz.ntmps36
 go_upto_region 1 with (fail)
 generalize World.alloc _ _ = w1 at hB kB ⊢
 generalize w.heap.size = B at hB ⊢
 have f10 := (hB.pull 1).cell 10
 have f14 := (hB.pull 1).cell 14
 have f15 := (hB.pull 1).cell 15
 have f16 := (hB.pull 1).cell 16
 have f17 := (hB.pull 1).cell 17
 have f18 := (hB.pull 1).cell 18
 simp [findC, hn, nxV] at f10 f14 f15 f16 f17 f18
 have hfl := (hB.pull 1).lt
 have hO := hB.alloc (.cells #[.int .i64 D.e, .int .i64 D.ver, .int .i64 D.node, .slice kao D.kids.length kcap, .slice none 0 0] 28)
 have kO := kB.alloc (.cells #[.int .i64 D.e, .int .i64 D.ver, .int .i64 D.node, .slice kao D.kids.length kcap, .slice none 0 0] 28)
 go_upto_region 4 with (fail)
 generalize World.alloc _ _ = w2 at hO kO ⊢
 generalize w1.heap.size = O at hO ⊢
 clear hB kB f10 f14 f15 f16 f17 f18 hfl
 have o0 := (hO).cell 0
 have o1 := (hO).cell 1
 have o2 := (hO).cell 2
 have o3 := (hO).cell 3
 have o4 := (hO).cell 4
 simp at o0 o1 o2 o3 o4
 have hcl := clone_kids (hO.pull 5) hk
 go_wp2_with fail
 refine hcl.mono ?_
 rintro e w3 ⟨vo, rfl, h3, k3⟩
 obtain ⟨ao, cap, rfl⟩ := h3.tLen
 have k3 := kO.trans k3
 clear hcl hO kO o0 o1 o2 o3 o4
 have h4 := (h3.pull 2).set 3 (.slice ao D.kids.length cap)
 have k4 := k3.setCell ⟨O, 3, none⟩ (.slice ao D.kids.length cap)
 have o0 := (h3.pull 2).cell 0
 have o1 := (h3.pull 2).cell 1
 have o2 := (h3.pull 2).cell 2
 have o3 := (h3.pull 2).cell 3
 have o4 := (h3.pull 2).cell 4
 have of0 := (h3.pull 2).free 0
 have of1 := (h3.pull 2).free 1
 have of2 := (h3.pull 2).free 2
 have of3 := (h3.pull 2).free 3
 have of4 := (h3.pull 2).free 4
 simp at o0 o1 o2 o3 o4
 have hol := (h3.pull 2).lt
 go_upto_region 5 with (fail)
 generalize World.setCell _ _ _ = w4 at h4 k4 ⊢
 clear h3 k3 o0 of0 o1 of1 o2 of2 o3 of3 o4 of4 hol
 have o0 := (h4).cell 0
 have o1 := (h4).cell 1
 have o2 := (h4).cell 2
 have o3 := (h4).cell 3
 have o4 := (h4).cell 4
 have of0 := (h4).free 0
 have of1 := (h4).free 1
 have of2 := (h4).free 2
 have of3 := (h4).free 3
 have of4 := (h4).free 4
 simp at o0 o1 o2 o3 o4
 have b0 := (h4.pull 3).cell 0
 have b1 := (h4.pull 3).cell 1
 have b2 := (h4.pull 3).cell 2
 have b3 := (h4.pull 3).cell 3
 have b4 := (h4.pull 3).cell 4
 have bf0 := (h4.pull 3).free 0
 have bf1 := (h4.pull 3).free 1
 have bf2 := (h4.pull 3).free 2
 have bf3 := (h4.pull 3).free 3
 have bf4 := (h4.pull 3).free 4
 simp at b0 b1 b2 b3 b4
 have h5 := (((((h4.pull 3).set 0 (.int .i64 D.e)).set 1 (.int .i64 D.ver)).set 2 (.int .i64 D.node)).set 3 (.slice ao D.kids.length cap)).set 4 (.slice none 0 0)
 have k5 := ((((k4.setCell ⟨B, 0, none⟩ (.int .i64 D.e)).setCell ⟨B, 1, none⟩ (.int .i64 D.ver)).setCell ⟨B, 2, none⟩ (.int .i64 D.node)).setCell ⟨B, 3, none⟩ (.slice ao D.kids.length cap)).setCell ⟨B, 4, none⟩ (.slice none 0 0)
 go_wp2_with fail
 refine bodyPost_ret (v := .agg #[.int .i64 D.e, .int .i64 D.ver, .int .i64 D.node, .slice ao D.kids.length cap, .slice none 0 0]) (by simp [results, Tryz.results36, go_sem, b0, bf0, b1, bf1, b2, bf2, b3, bf3, b4, bf4]) rfl ⟨ao, D.kids.length, cap, rfl, ?_, k5⟩
 exact (findP_I ((h5.tail.tail.push 4).push 3)).swap
/-! ### what one who goes down a path does, as functions -/
def popS : List Hd → Option (Hd × List Hd)
 | [] => none
 | h :: r => if h.s = 0 ∧ h.g = 0 then popS r else some (h, r)
def restA (D : FindD) : Option (Hd × List Hd) → FindD
 | none => endF 0 { D with stack := [], kids := isort klt D.kids }
 | some (h, r) => { D with stack := r.reverse, want := h, next := .through }
def restF (D : FindD) : FindD := restA D (popS D.stack.reverse)
def rootV (v : VerD) : Hd := ⟨v.ks, v.kg⟩
def segF (D : FindD) : FindD := match D.names with
 | _ :: _ => if D.v.ks = 0 ∧ D.v.kg = 0 then endF 9 { D with met := 0, found := false } else { D with met := 0, found := false, want := rootV D.v, next := .down }
 | [] => if D.list then (if D.v.ks = 0 ∧ D.v.kg = 0 then restF { D with met := 0, found := false } else { D with met := 0, found := false, want := rootV D.v, next := .through }) else endF 0 { D with met := 0, found := false }
def bottomF (D : FindD) : FindD := match D.names with
 | [] => restF D
 | _ :: r => if D.found then segF { D with at' := D.met, names := r } else endF 9 D
def goF (h : Hd) (nx : Nx) (D : FindD) : FindD := if h.s = 0 ∧ h.g = 0 then bottomF D else { D with want := h, next := nx }
def hitF (k : KidD) (x : ByteArray) (D : FindD) : FindD := if k.up = D.at' ∧ k.name = x then { D with met := k.node, found := true } else D
def downF (k : KidD) (lh rh : Hd) (x : ByteArray) (D : FindD) : FindD := if kord k ⟨D.at', x, 0⟩ < 0 then goF rh .down D else goF lh .down (hitF k x D)
def noteF (k : KidD) (lh rh : Hd) (D : FindD) : FindD :=
 { D with kids := if k.up = D.at' then D.kids ++ [k] else D.kids, stack := (if D.at' ≤ k.up then D.stack ++ [lh] else D.stack) ++ (if k.up ≤ D.at' then [rh] else []) }
def throughF (k : KidD) (lh rh : Hd) (D : FindD) : FindD := restF (noteF k lh rh D)
def giveF (k : KidD) (lh rh : Hd) (D : FindD) : FindD := match D.next with
 | .no => D
 | .down => match D.names with
   | x :: _ => downF k lh rh x { D with loads := D.loads + 1 }
   | [] => D
 | .through => throughF k lh rh { D with loads := D.loads + 1 }
theorem giveF_down {k : KidD} {lh rh : Hd} {D : FindD} {x : ByteArray} {r : List ByteArray} (h : D.next = .down) (hn : D.names = x :: r) : giveF k lh rh D = downF k lh rh x { D with loads := D.loads + 1 } := by
 cases D
 dsimp only at h hn
 subst h
 subst hn
 rfl
theorem giveF_through {k : KidD} {lh rh : Hd} {D : FindD} (h : D.next = .through) : giveF k lh rh D = throughF k lh rh { D with loads := D.loads + 1 } := by
 cases D
 dsimp only at h
 subst h
 rfl
end Go.Proofs.YtddglbjhhnipgaaGreatDoor

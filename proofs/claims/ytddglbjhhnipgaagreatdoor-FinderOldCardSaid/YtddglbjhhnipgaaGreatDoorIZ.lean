import Derived.Test.YtddglbjhhnipgaaGreatDoorIY
import Derived.Test.YtddglbjhhnipgaaGreatDoorIS
namespace Go.Proofs.YtddglbjhhnipgaaGreatDoor
open Go Go.RowKit
set_option linter.unusedVariables false
set_option linter.unusedSimpArgs false
set_option maxRecDepth 100000
set_option maxHeartbeats 8000000
/-! ### a version with a change, with room or without -/
theorem sp_eqlF {a b : SpD} (h : a ≠ b) (W : World) : (binOp BinOp.eql 98 (.agg #[.bool a.inn, .int .i64 a.up, .string a.nm]) (.agg #[.bool b.inn, .int .i64 b.up, .string b.nm])).run Tryz.prog W = .ok (.bool false) W := by
 by_cases h1 : a.inn = b.inn
 · by_cases h2 : a.up = b.up
   · have h3 : a.nm ≠ b.nm := fun e => h (by cases a; cases b; simp_all)
     have e1 : (a.inn == b.inn) = true := by simp [h1]
     have e2 : (a.up == b.up) = true := by simp [h2]
     have h4 : ¬ a.nm.toList = b.nm.toList := fun e => h3 (name_eq e)
     go_simp
     all_goals simp [h4]
   · have e1 : (a.inn == b.inn) = true := by simp [h1]
     have e2 : (a.up == b.up) = false := by simp [h2]
     go_simp
     try simp [h2]
 · have e1 : (a.inn == b.inn) = false := by simp [h1]
   go_simp
   try simp [h1]
theorem sp_eqlT (a : SpD) (W : World) : (binOp BinOp.eql 98 (.agg #[.bool a.inn, .int .i64 a.up, .string a.nm]) (.agg #[.bool a.inn, .int .i64 a.up, .string a.nm])).run Tryz.prog W = .ok (.bool true) W := by
 go_simp
 try simp
theorem sp_neqF (a : SpD) (W : World) : (binOp BinOp.neq 98 (.agg #[.bool a.inn, .int .i64 a.up, .string a.nm]) (.agg #[.bool a.inn, .int .i64 a.up, .string a.nm])).run Tryz.prog W = .ok (.bool false) W := by
 go_simp
 try simp
theorem setS7 {w : World} {l : List HProp} {X V : Nat} {n ou nu : Int} {oi ni : Bool} {om nm : ByteArray} {v : VerD} {tx tv : TypeId} (hs : Sat w (own X (.cells #[.int .i64 n, .bool oi, .int .i64 ou, .string om, .bool ni, .int .i64 nu, .string nm] tx (0, 0)) :: own V (.cells #[.int .i64 v.n, .int .i64 v.ks, .int .i64 v.kg, .int .i64 v.ss, .int .i64 v.sg] tv (0, 0)) :: l)) :
   (w.cell? ⟨X, 0, none⟩ = some (.int .i64 n) ∧ w.cell? ⟨X, 1, none⟩ = some (.bool oi) ∧ w.cell? ⟨X, 2, none⟩ = some (.int .i64 ou) ∧ w.cell? ⟨X, 3, none⟩ = some (.string om) ∧ w.cell? ⟨X, 4, none⟩ = some (.bool ni) ∧ w.cell? ⟨X, 5, none⟩ = some (.int .i64 nu) ∧ w.cell? ⟨X, 6, none⟩ = some (.string nm)) ∧
   (w.cell? ⟨V, 0, none⟩ = some (.int .i64 v.n) ∧ w.cell? ⟨V, 1, none⟩ = some (.int .i64 v.ks) ∧ w.cell? ⟨V, 2, none⟩ = some (.int .i64 v.kg) ∧ w.cell? ⟨V, 3, none⟩ = some (.int .i64 v.ss) ∧ w.cell? ⟨V, 4, none⟩ = some (.int .i64 v.sg)) :=
 ⟨⟨hs.cell 0, hs.cell 1, hs.cell 2, hs.cell 3, hs.cell 4, hs.cell 5, hs.cell 6⟩, (hs.pull 1).cell 0, (hs.pull 1).cell 1, (hs.pull 1).cell 2, (hs.pull 1).cell 3, (hs.pull 1).cell 4⟩
/-- What Set comes to. -/
def SetA (s mk ms : Nat) (v : VerD) (most : Int) (AK : List SlotK) (FK : List Int) (AS : List SlotS) (FS : List Int) (GK GS : Nat) (tK : HTK) (tS : HTS) (PK : KidD × Bool → Prop) (PS : Int × SpD → Prop) (j : Nat) (l : List HProp) (w : World) (e : Ending) (w' : World) : Prop :=
 ∃ (AK2 : List SlotK) (FK2 : List Int) (AS2 : List SlotS) (FS2 : List Int), Kp w w' ∧
   ((∃ (k1 k2 k3 k4 : Value) (km kg sm sg : List Hd) (TK : HTK) (TS : HTS), e = .returned (.tuple #[aggV { v with ks := TK.root.s, kg := TK.root.g, ss := TS.root.s, sg := TS.root.g }, .agg #[k1, k2, k3, k4], .bool true]) ∧ EdE kord most AK FK GK tK AK2 FK2 TK km kg PK j ∧ EdE cmpI most AS FS GS tS AS2 FS2 TS sm sg PS 1 ∧
       Sat w' (rowT fH k1 56 2 km :: rowT fH k2 56 2 kg :: rowT fH k3 56 2 sm :: rowT fH k4 56 2 sg :: own s (.cells (stoC mk ms) 80 (0, 0)) :: mapK mk most AK2 FK2 :: mapS ms most AS2 FS2 :: l)) ∨
    (e = .returned (.tuple #[aggV ⟨0, 0, 0, 0, 0⟩, .agg #[.slice none 0 0, .slice none 0 0, .slice none 0 0, .slice none 0 0], .bool false]) ∧ SameE most AK FK GK AK2 FK2 (2 * (tK.size + 2)) ∧ SameE most AS FS GS AS2 FS2 (2 * (tS.size + 2)) ∧ (roomA most AK FK < 2 * (tK.size + 2) ∨ roomA most AS FS < tS.size + 2) ∧
       Sat w' (own s (.cells (stoC mk ms) 80 (0, 0)) :: mapK mk most AK2 FK2 :: mapS ms most AS2 FS2 :: l)))
theorem store_set_same {w : World} {l : List HProp} {s : Nat} {n ou : Int} {om : ByteArray} (v : VerD) (hs : Sat w l) :
   Calls Tryz.prog 43 #[.pointer (some ⟨s, 0, none⟩), aggV v, .agg #[.int .i64 n, .bool true, .int .i64 ou, .string om, .bool true, .int .i64 ou, .string om]] w fun e w' => e = .returned (.tuple #[aggV ⟨0, 0, 0, 0, 0⟩, .agg #[.slice none 0 0, .slice none 0 0, .slice none 0 0, .slice none 0 0], .bool false]) ∧ Sat w' l ∧ Kp w w' := by
 have heq := fun (W' : World) => sp_eqlT (⟨true, ou, om⟩ : SpD) W'
 dsimp only at heq
 have hB := (((hs.alloc (.cells #[.int .i64 v.n, .int .i64 v.ks, .int .i64 v.kg, .int .i64 v.ss, .int .i64 v.sg] 58)).alloc (.cells #[.int .i64 n, .bool true, .int .i64 ou, .string om, .bool true, .int .i64 ou, .string om] 101)).alloc (.cells #[.int .i64 0, .int .i64 0, .int .i64 0, .int .i64 0, .int .i64 0] 58)).alloc (.cells #[.slice none 0 0, .slice none 0 0, .slice none 0 0, .slice none 0 0] 94)
 have kB := ((((Kp.refl w).alloc (.cells #[.int .i64 v.n, .int .i64 v.ks, .int .i64 v.kg, .int .i64 v.ss, .int .i64 v.sg] 58)).alloc (.cells #[.int .i64 n, .bool true, .int .i64 ou, .string om, .bool true, .int .i64 ou, .string om] 101)).alloc (.cells #[.int .i64 0, .int .i64 0, .int .i64 0, .int .i64 0, .int .i64 0] 58)).alloc (.cells #[.slice none 0 0, .slice none 0 0, .slice none 0 0, .slice none 0 0] 94)
 simp only [World.size_alloc] at hB
 clear hs
 unfold aggV
 go_enter Tryz.func43, Tryz.ntmps43
 go_upto_region 1 with (fail)
 generalize World.alloc _ _ = w1 at hB kB ⊢
 generalize w.heap.size + 1 + 1 + 1 = RT at hB ⊢
 generalize w.heap.size + 1 + 1 = RV at hB ⊢
 generalize w.heap.size + 1 = X at hB ⊢
 generalize w.heap.size = V at hB ⊢
 have h2 := (hB.push 3).push 3
 have S0 := setS7 h2
 obtain ⟨⟨x0, x1, x2, x3, x4, x5, x6⟩, y0, y1, y2, y3, y4⟩ := S0
 go_upto_region 3 with (fail)
 go_quiet (fail)
 have h3 := hB.drewN nq
 have k3 := kB.drewN nq
 generalize w1.drewN nq = w3 at h3 k3 ⊢
 clear h2 hB kB x0 x1 x2 x3 x4 x5 x6 y0 y1 y2 y3 y4
 have n1 := h3.ne
 have n1' := n1.symm
 have t0 := (h3).cell 0
 have t1 := (h3).cell 1
 have t2 := (h3).cell 2
 have t3 := (h3).cell 3
 have tf0 := (h3).free 0
 have tf1 := (h3).free 1
 have tf2 := (h3).free 2
 have tf3 := (h3).free 3
 simp at t0 t1 t2 t3
 have v0 := (h3.pull 1).cell 0
 have v1 := (h3.pull 1).cell 1
 have v2 := (h3.pull 1).cell 2
 have v3 := (h3.pull 1).cell 3
 have v4 := (h3.pull 1).cell 4
 have vf0 := (h3.pull 1).free 0
 have vf1 := (h3.pull 1).free 1
 have vf2 := (h3.pull 1).free 2
 have vf3 := (h3.pull 1).free 3
 have vf4 := (h3.pull 1).free 4
 simp at v0 v1 v2 v3 v4
 have g1 := (((((h3.pull 1)).set 0 (.int .i64 0)).set 1 (.int .i64 0)).set 2 (.int .i64 0)).set 3 (.int .i64 0) |>.set 4 (.int .i64 0)
 have g2 := (((((g1.pull 1).set 0 (.slice none 0 0)).set 1 (.slice none 0 0)).set 2 (.slice none 0 0)).set 3 (.slice none 0 0))
 have q1 := (((((((((k3.setCell ⟨RV, 0, none⟩ (.int .i64 0)).setCell ⟨RV, 1, none⟩ (.int .i64 0)).setCell ⟨RV, 2, none⟩ (.int .i64 0)).setCell ⟨RV, 3, none⟩ (.int .i64 0)).setCell ⟨RV, 4, none⟩ (.int .i64 0)).setCell ⟨RT, 0, none⟩ (.slice none 0 0)).setCell ⟨RT, 1, none⟩ (.slice none 0 0)).setCell ⟨RT, 2, none⟩ (.slice none 0 0)).setCell ⟨RT, 3, none⟩ (.slice none 0 0))
 have HG := Lib.hid g2.tail.tail.tail.tail
 have HQ := Lib.hid q1
 clear g1 g2 q1 h3
 go_wp2_with fail
 refine bodyPost_ret (v := .tuple #[.agg #[.int .i64 0, .int .i64 0, .int .i64 0, .int .i64 0, .int .i64 0], .agg #[.slice none 0 0, .slice none 0 0, .slice none 0 0, .slice none 0 0], .bool false]) (by simp [results, Tryz.results43, go_sem, t0, tf0, t1, tf1, t2, tf2, t3, tf3, v0, vf0, v1, vf1, v2, vf2, v3, vf3, v4, vf4, n1, n1']) rfl ?_
 exact ⟨rfl, HG.out, HQ.out⟩
theorem store_set_P {w : World} {l : List HProp} {s mk ms : Nat} {n nu : Int} {nm : ByteArray} {v : VerD} {most : Int} {AK : List SlotK} {FK : List Int} {AS : List SlotS} {FS : List Int} {GK GS : Nat} {tK : HTK} {tS : HTS}
   (hs : Sat w (own s (.cells (stoC mk ms) 80 (0, 0)) :: mapK mk most AK FK :: mapS ms most AS FS :: l)) (hget : getT cmpI n tS = none)
   (hvk : v.ks = tK.root.s) (hvk2 : v.kg = tK.root.g) (hvs : v.ss = tS.root.s) (hvs2 : v.sg = tS.root.g)
   (hK : VOk kord AK FK GK tK) (hS : VOk cmpI AS FS GS tS) (zK : tK.size < 40000) (zS : tS.size < 40000)
   (hm0 : 0 ≤ most) (hm1 : most ≤ 1000000) (lK : (AK.length : Int) ≤ most) (lS : (AS.length : Int) ≤ most) (gK : GK + 400000 < 1000000000000) (gS : GS + 400000 < 1000000000000) :
   Calls Tryz.prog 43 #[.pointer (some ⟨s, 0, none⟩), aggV v, .agg #[.int .i64 n, .bool false, .int .i64 0, .string ⟨#[]⟩, .bool true, .int .i64 nu, .string nm]] w (SetA s mk ms v most AK FK AS FS GK GS tK tS (fun x : KidD × Bool => x = ((⟨nu, nm, n⟩ : KidD), true) ∨ x ∈ toL tK ∧ x.1 ≠ (⟨nu, nm, n⟩ : KidD)) (fun x : Int × SpD => x = (n, (⟨true, nu, nm⟩ : SpD)) ∨ x ∈ toL tS ∧ x.1 ≠ n) 1 l w) := by
 have sp := fun (W' : World) (l' : List HProp) (hW' : Sat W' (own s (.cells (stoC mk ms) 80 (0, 0)) :: mapS ms most AS FS :: l')) => store_spot (v := v) n hW' hS.rep hvs hvs2
 rw [hget] at sp
 simp only [Option.getD_none, Option.getD_some] at sp
 have ma := fun (W' : World) (Wb : Nat) (l' : List HProp) (hW' : Sat W' (workP Wb s ⟨v, [], [], [], [], false⟩ :: own s (.cells (stoC mk ms) 80 (0, 0)) :: mapK mk most AK FK :: mapS ms most AS FS :: l')) => work_make_P (n := n) (ou := 0) (nu := nu) (om := ⟨#[]⟩) (nm := nm) hW' hvk hvk2 hvs hvs2 hK hS zK zS hm0 hm1 lK lS gK gS
 unfold aggV aggSp spD0 at sp
 dsimp only at sp
 have SP := Lib.hid sp
 have MA := Lib.hid ma
 have hB := (((hs.alloc (.cells #[.int .i64 v.n, .int .i64 v.ks, .int .i64 v.kg, .int .i64 v.ss, .int .i64 v.sg] 58)).alloc (.cells #[.int .i64 n, .bool false, .int .i64 0, .string ⟨#[]⟩, .bool true, .int .i64 nu, .string nm] 101)).alloc (.cells #[.int .i64 0, .int .i64 0, .int .i64 0, .int .i64 0, .int .i64 0] 58)).alloc (.cells #[.slice none 0 0, .slice none 0 0, .slice none 0 0, .slice none 0 0] 94)
 have kB := ((((Kp.refl w).alloc (.cells #[.int .i64 v.n, .int .i64 v.ks, .int .i64 v.kg, .int .i64 v.ss, .int .i64 v.sg] 58)).alloc (.cells #[.int .i64 n, .bool false, .int .i64 0, .string ⟨#[]⟩, .bool true, .int .i64 nu, .string nm] 101)).alloc (.cells #[.int .i64 0, .int .i64 0, .int .i64 0, .int .i64 0, .int .i64 0] 58)).alloc (.cells #[.slice none 0 0, .slice none 0 0, .slice none 0 0, .slice none 0 0] 94)
 simp only [World.size_alloc] at hB
 clear sp ma hs hget hvk hvk2 hvs hvs2 hK hS zK zS hm0 hm1 lK lS gK gS
 unfold aggV
 go_enter Tryz.func43, Tryz.ntmps43
 go_upto_region 1 with (fail)
 generalize World.alloc _ _ = w1 at hB kB ⊢
 generalize w.heap.size + 1 + 1 + 1 = RT at hB ⊢
 generalize w.heap.size + 1 + 1 = RV at hB ⊢
 generalize w.heap.size + 1 = X at hB ⊢
 generalize w.heap.size = V at hB ⊢
 have h2 := (hB.push 3).push 3
 have S0 := setS7 h2
 have HS0 := Lib.hid S0
 obtain ⟨⟨x0, x1, x2, x3, x4, x5, x6⟩, y0, y1, y2, y3, y4⟩ := S0
 go_upto_region 3 with (fail)
 have hp := SP.out _ _ ((h2.pull 6).pull 5 |>.drew)
 go_region_held3 (fun w' => (w'.cell? ⟨X, 0, none⟩ = some (.int .i64 n) ∧ w'.cell? ⟨X, 1, none⟩ = some (.bool false) ∧ w'.cell? ⟨X, 2, none⟩ = some (.int .i64 0) ∧ w'.cell? ⟨X, 3, none⟩ = some (.string ⟨#[]⟩) ∧ w'.cell? ⟨X, 4, none⟩ = some (.bool true) ∧ w'.cell? ⟨X, 5, none⟩ = some (.int .i64 nu) ∧ w'.cell? ⟨X, 6, none⟩ = some (.string nm)) ∧ (w'.cell? ⟨V, 0, none⟩ = some (.int .i64 v.n) ∧ w'.cell? ⟨V, 1, none⟩ = some (.int .i64 v.ks) ∧ w'.cell? ⟨V, 2, none⟩ = some (.int .i64 v.kg) ∧ w'.cell? ⟨V, 3, none⟩ = some (.int .i64 v.ss) ∧ w'.cell? ⟨V, 4, none⟩ = some (.int .i64 v.sg))) (first | with_reducible exact HS0.out | with_reducible exact SA | go_keep) ((go_at_call 44; (with_reducible refine hp.mono ?_); rintro e w3 ⟨rfl, h3, k3⟩; have SA := setS7 ((h3.pull 3).pull 3)))
 have k3 := kB.drew.trans k3
 clear hp HS0 x0 x1 x2 x3 x4 x5 x6 y0 y1 y2 y3 y4 h2 hB kB
 have y0 := (h3.pull 3).cell 0
 have y1 := (h3.pull 3).cell 1
 have y2 := (h3.pull 3).cell 2
 have y3 := (h3.pull 3).cell 3
 have y4 := (h3.pull 3).cell 4
 simp at y0 y1 y2 y3 y4
 have h4 := ((((h3.tNil fH 56 2).tNil fH 56 2).tNil fH 56 2).tNil fH 56 2).alloc (.cells #[.pointer (some ⟨s, 0, none⟩), .int .i64 v.n, .int .i64 v.ks, .int .i64 v.kg, .int .i64 v.ss, .int .i64 v.sg, .slice none 0 0, .slice none 0 0, .slice none 0 0, .slice none 0 0, .bool false] 169)
 have k4 := k3.alloc (.cells #[.pointer (some ⟨s, 0, none⟩), .int .i64 v.n, .int .i64 v.ks, .int .i64 v.kg, .int .i64 v.ss, .int .i64 v.sg, .slice none 0 0, .slice none 0 0, .slice none 0 0, .slice none 0 0, .bool false] 169)
 have hvl := (h3.pull 3).lt
 clear SA
 go_upto_region 6 with (fail)
 generalize World.alloc _ _ = w4 at h4 k4 ⊢
 generalize w3.heap.size = W at h4 ⊢
 clear h3 k3 y0 y1 y2 y3 y4 hvl
 have h5 := ((workP_I (D := ⟨v, [], [], [], [], false⟩) h4).pull 7).push 2
 have x0 := (h5.pull 4).cell 0
 have x1 := (h5.pull 4).cell 1
 have x2 := (h5.pull 4).cell 2
 have x3 := (h5.pull 4).cell 3
 have x4 := (h5.pull 4).cell 4
 have x5 := (h5.pull 4).cell 5
 have x6 := (h5.pull 4).cell 6
 simp at x0 x1 x2 x3 x4 x5 x6
 have hm := MA.out _ _ _ h5
 clear h4
 go_wp2_with fail
 refine hm.mono ?_
 rintro e w7 ⟨rfl, D, AK2, FK2, AS2, FS2, h7, k7, hcase⟩
 have k7 := k4.trans k7
 clear hm h5 k4 x0 x1 x2 x3 x4 x5 x6
 obtain ⟨k1, k2, k3, k4, h8⟩ := workP_E h7
 obtain ⟨o1, m1, c1, rfl⟩ : ∃ o m c, k1 = .slice o m c := by obtain ⟨o, c, e⟩ := (h8.pull 1).tLen; exact ⟨o, _, c, e⟩
 obtain ⟨o2, m2, c2, rfl⟩ : ∃ o m c, k2 = .slice o m c := by obtain ⟨o, c, e⟩ := (h8.pull 2).tLen; exact ⟨o, _, c, e⟩
 obtain ⟨o3, m3, c3, rfl⟩ : ∃ o m c, k3 = .slice o m c := by obtain ⟨o, c, e⟩ := (h8.pull 3).tLen; exact ⟨o, _, c, e⟩
 obtain ⟨o4, m4, c4, rfl⟩ : ∃ o m c, k4 = .slice o m c := by obtain ⟨o, c, e⟩ := (h8.pull 4).tLen; exact ⟨o, _, c, e⟩
 have n1 := (h8.pull 10).ne
 have n1' := n1.symm
 have n2 := (h8.pull 11).ne
 have n2' := n2.symm
 have n3 := ((h8.pull 11).pull 11).ne
 have n3' := n3.symm
 have t0 := (h8.pull 10).cell 0
 have t1 := (h8.pull 10).cell 1
 have t2 := (h8.pull 10).cell 2
 have t3 := (h8.pull 10).cell 3
 have tf0 := (h8.pull 10).free 0
 have tf1 := (h8.pull 10).free 1
 have tf2 := (h8.pull 10).free 2
 have tf3 := (h8.pull 10).free 3
 simp at t0 t1 t2 t3
 have v0 := (h8.pull 11).cell 0
 have v1 := (h8.pull 11).cell 1
 have v2 := (h8.pull 11).cell 2
 have v3 := (h8.pull 11).cell 3
 have v4 := (h8.pull 11).cell 4
 have vf0 := (h8.pull 11).free 0
 have vf1 := (h8.pull 11).free 1
 have vf2 := (h8.pull 11).free 2
 have vf3 := (h8.pull 11).free 3
 have vf4 := (h8.pull 11).free 4
 simp at v0 v1 v2 v3 v4
 have hwl := h8.lt
 clear h7
 rcases hcase with ⟨TK, TS, hd, hdv, eK, eS⟩ | ⟨hd, sK, sS, hsh⟩
 case inr =>
   have d10 : w7.cell? ⟨W, 10, none⟩ = some (.bool false) := by have q := h8.cell 10; simp [workC, hd] at q; exact q
   have HR := Lib.hid (And.intro sK (And.intro sS hsh))
   clear sK sS hsh hd
   have g1 := (((((((h8.pull 11)).set 0 (.int .i64 0)).set 1 (.int .i64 0)).set 2 (.int .i64 0)).set 3 (.int .i64 0)).set 4 (.int .i64 0))
   have g2 := (((((g1.pull 11).set 0 (.slice none 0 0)).set 1 (.slice none 0 0)).set 2 (.slice none 0 0)).set 3 (.slice none 0 0))
   have q1 := (((((((((k7.setCell ⟨RV, 0, none⟩ (.int .i64 0)).setCell ⟨RV, 1, none⟩ (.int .i64 0)).setCell ⟨RV, 2, none⟩ (.int .i64 0)).setCell ⟨RV, 3, none⟩ (.int .i64 0)).setCell ⟨RV, 4, none⟩ (.int .i64 0)).setCell ⟨RT, 0, none⟩ (.slice none 0 0)).setCell ⟨RT, 1, none⟩ (.slice none 0 0)).setCell ⟨RT, 2, none⟩ (.slice none 0 0)).setCell ⟨RT, 3, none⟩ (.slice none 0 0))
   have HG := Lib.hid (((g2.tail.tail.tail.pull 7).tail.pull 7).tail.tail.tail.tail.tail)
   have HQ := Lib.hid q1
   clear g1 g2 q1 h8
   go_wp2_with fail
   refine bodyPost_ret (v := .tuple #[.agg #[.int .i64 0, .int .i64 0, .int .i64 0, .int .i64 0, .int .i64 0], .agg #[.slice none 0 0, .slice none 0 0, .slice none 0 0, .slice none 0 0], .bool false]) (by simp [results, Tryz.results43, go_sem, t0, tf0, t1, tf1, t2, tf2, t3, tf3, v0, vf0, v1, vf1, v2, vf2, v3, vf3, v4, vf4, n1, n1', n2, n2', n3, n3']) rfl ?_
   exact ⟨AK2, FK2, AS2, FS2, HQ.out, .inr ⟨rfl, HR.out.1, HR.out.2.1, HR.out.2.2, HG.out⟩⟩
 case inl =>
   have S0 : w7.cell? ⟨W, 1, none⟩ = some (.int .i64 v.n) ∧ w7.cell? ⟨W, 2, none⟩ = some (.int .i64 TK.root.s) ∧ w7.cell? ⟨W, 3, none⟩ = some (.int .i64 TK.root.g) ∧ w7.cell? ⟨W, 4, none⟩ = some (.int .i64 TS.root.s) ∧ w7.cell? ⟨W, 5, none⟩ = some (.int .i64 TS.root.g) ∧ w7.cell? ⟨W, 6, none⟩ = some (.slice o1 m1 c1) ∧ w7.cell? ⟨W, 7, none⟩ = some (.slice o2 m2 c2) ∧ w7.cell? ⟨W, 8, none⟩ = some (.slice o3 m3 c3) ∧ w7.cell? ⟨W, 9, none⟩ = some (.slice o4 m4 c4) := by
     have q1 := h8.cell 1
     have q2 := h8.cell 2
     have q3 := h8.cell 3
     have q4 := h8.cell 4
     have q5 := h8.cell 5
     simp [workC, hdv] at q1 q2 q3 q4 q5
     exact ⟨q1, q2, q3, q4, q5, h8.cell 6, h8.cell 7, h8.cell 8, h8.cell 9⟩
   have HS0 := Lib.hid S0
   have d10 : w7.cell? ⟨W, 10, none⟩ = some (.bool true) := by have q := h8.cell 10; simp [workC, hd] at q; exact q
   have HR := Lib.hid (And.intro eK eS)
   clear eK eS hd hdv
   go_upto_region 9 with (fail)
   obtain ⟨e1, e2, e3, e4, e5, e6, e7, e8, e9⟩ := S0
   have g1 := (((((((h8.pull 11)).set 0 (.int .i64 v.n)).set 1 (.int .i64 TK.root.s)).set 2 (.int .i64 TK.root.g)).set 3 (.int .i64 TS.root.s)).set 4 (.int .i64 TS.root.g))
   have g2 := (((((g1.pull 11).set 0 (.slice o1 m1 c1)).set 1 (.slice o2 m2 c2)).set 2 (.slice o3 m3 c3)).set 3 (.slice o4 m4 c4))
   have q1 := (((((((((k7.setCell ⟨RV, 0, none⟩ (.int .i64 v.n)).setCell ⟨RV, 1, none⟩ (.int .i64 TK.root.s)).setCell ⟨RV, 2, none⟩ (.int .i64 TK.root.g)).setCell ⟨RV, 3, none⟩ (.int .i64 TS.root.s)).setCell ⟨RV, 4, none⟩ (.int .i64 TS.root.g)).setCell ⟨RT, 0, none⟩ (.slice o1 m1 c1)).setCell ⟨RT, 1, none⟩ (.slice o2 m2 c2)).setCell ⟨RT, 2, none⟩ (.slice o3 m3 c3)).setCell ⟨RT, 3, none⟩ (.slice o4 m4 c4))
   go_region_held3 (fun w' => w'.cell? ⟨W, 1, none⟩ = some (.int .i64 v.n) ∧ w'.cell? ⟨W, 2, none⟩ = some (.int .i64 TK.root.s) ∧ w'.cell? ⟨W, 3, none⟩ = some (.int .i64 TK.root.g) ∧ w'.cell? ⟨W, 4, none⟩ = some (.int .i64 TS.root.s) ∧ w'.cell? ⟨W, 5, none⟩ = some (.int .i64 TS.root.g) ∧ w'.cell? ⟨W, 6, none⟩ = some (.slice o1 m1 c1) ∧ w'.cell? ⟨W, 7, none⟩ = some (.slice o2 m2 c2) ∧ w'.cell? ⟨W, 8, none⟩ = some (.slice o3 m3 c3) ∧ w'.cell? ⟨W, 9, none⟩ = some (.slice o4 m4 c4)) (first | with_reducible exact HS0.out | go_keep) ((fail))
   all_goals
     have G := g2.drew
     have Q := q1.drew
     clear g1 g2 q1 h8 t0 tf0 t1 tf1 t2 tf2 t3 tf3 v0 vf0 v1 vf1 v2 vf2 v3 vf3 v4 vf4 e1 e2 e3 e4 e5 e6 e7 e8 e9 d10 HS0
     generalize World.drew _ = w8 at G Q ⊢
     have t0 := (G).cell 0
     have t1 := (G).cell 1
     have t2 := (G).cell 2
     have t3 := (G).cell 3
     simp at t0 t1 t2 t3
     have v0 := (G.pull 1).cell 0
     have v1 := (G.pull 1).cell 1
     have v2 := (G.pull 1).cell 2
     have v3 := (G.pull 1).cell 3
     have v4 := (G.pull 1).cell 4
     simp at v0 v1 v2 v3 v4
     have HG := Lib.hid (((G.tail.tail.tail.pull 7).tail.pull 7).tail)
     have HQ := Lib.hid Q
     clear G Q
     go_wp2_with fail
     refine bodyPost_ret (v := .tuple #[.agg #[.int .i64 v.n, .int .i64 TK.root.s, .int .i64 TK.root.g, .int .i64 TS.root.s, .int .i64 TS.root.g], .agg #[.slice o1 m1 c1, .slice o2 m2 c2, .slice o3 m3 c3, .slice o4 m4 c4], .bool true]) (by simp [results, Tryz.results43, go_sem, t0, t1, t2, t3, v0, v1, v2, v3, v4]) rfl ?_
     exact ⟨AK2, FK2, AS2, FS2, HQ.out, .inl ⟨.slice o1 m1 c1, .slice o2 m2 c2, .slice o3 m3 c3, .slice o4 m4 c4, D.km, D.kg, D.sm, D.sg, TK, TS, rfl, HR.out.1, HR.out.2, HG.out⟩⟩
theorem store_set_M {w : World} {l : List HProp} {s mk ms : Nat} {n ou nu : Int} {om nm : ByteArray} {v : VerD} {most : Int} {AK : List SlotK} {FK : List Int} {AS : List SlotS} {FS : List Int} {GK GS : Nat} {tK : HTK} {tS : HTS}
   (hs : Sat w (own s (.cells (stoC mk ms) 80 (0, 0)) :: mapK mk most AK FK :: mapS ms most AS FS :: l)) (hget : getT cmpI n tS = some ⟨true, ou, om⟩) (hasK : (getT kord (⟨ou, om, n⟩ : KidD) tK).isSome = true) (hne : (⟨true, ou, om⟩ : SpD) ≠ ⟨true, nu, nm⟩)
   (hvk : v.ks = tK.root.s) (hvk2 : v.kg = tK.root.g) (hvs : v.ss = tS.root.s) (hvs2 : v.sg = tS.root.g)
   (hK : VOk kord AK FK GK tK) (hS : VOk cmpI AS FS GS tS) (zK : tK.size < 40000) (zS : tS.size < 40000)
   (hm0 : 0 ≤ most) (hm1 : most ≤ 1000000) (lK : (AK.length : Int) ≤ most) (lS : (AS.length : Int) ≤ most) (gK : GK + 400000 < 1000000000000) (gS : GS + 400000 < 1000000000000) :
   Calls Tryz.prog 43 #[.pointer (some ⟨s, 0, none⟩), aggV v, .agg #[.int .i64 n, .bool true, .int .i64 ou, .string om, .bool true, .int .i64 nu, .string nm]] w (SetA s mk ms v most AK FK AS FS GK GS tK tS (fun x : KidD × Bool => x = ((⟨nu, nm, n⟩ : KidD), true) ∨ (x ∈ toL tK ∧ x.1 ≠ (⟨ou, om, n⟩ : KidD)) ∧ x.1 ≠ (⟨nu, nm, n⟩ : KidD)) (fun x : Int × SpD => x = (n, (⟨true, nu, nm⟩ : SpD)) ∨ x ∈ toL tS ∧ x.1 ≠ n) 2 l w) := by
 have sp := fun (W' : World) (l' : List HProp) (hW' : Sat W' (own s (.cells (stoC mk ms) 80 (0, 0)) :: mapS ms most AS FS :: l')) => store_spot (v := v) n hW' hS.rep hvs hvs2
 rw [hget] at sp
 simp only [Option.getD_none, Option.getD_some] at sp
 have ma := fun (W' : World) (Wb : Nat) (l' : List HProp) (hW' : Sat W' (workP Wb s ⟨v, [], [], [], [], false⟩ :: own s (.cells (stoC mk ms) 80 (0, 0)) :: mapK mk most AK FK :: mapS ms most AS FS :: l')) => work_make_M (n := n) (ou := ou) (nu := nu) (om := om) (nm := nm) hW' hvk hvk2 hvs hvs2 hK hS zK zS hasK hm0 hm1 lK lS gK gS
 unfold aggV aggSp at sp
 dsimp only at sp
 have SP := Lib.hid sp
 have MA := Lib.hid ma
 have heq := fun (W' : World) => sp_eqlF hne W'
 have hnq := fun (W' : World) => sp_neqF (⟨true, ou, om⟩ : SpD) W'
 dsimp only at heq hnq
 have hB := (((hs.alloc (.cells #[.int .i64 v.n, .int .i64 v.ks, .int .i64 v.kg, .int .i64 v.ss, .int .i64 v.sg] 58)).alloc (.cells #[.int .i64 n, .bool true, .int .i64 ou, .string om, .bool true, .int .i64 nu, .string nm] 101)).alloc (.cells #[.int .i64 0, .int .i64 0, .int .i64 0, .int .i64 0, .int .i64 0] 58)).alloc (.cells #[.slice none 0 0, .slice none 0 0, .slice none 0 0, .slice none 0 0] 94)
 have kB := ((((Kp.refl w).alloc (.cells #[.int .i64 v.n, .int .i64 v.ks, .int .i64 v.kg, .int .i64 v.ss, .int .i64 v.sg] 58)).alloc (.cells #[.int .i64 n, .bool true, .int .i64 ou, .string om, .bool true, .int .i64 nu, .string nm] 101)).alloc (.cells #[.int .i64 0, .int .i64 0, .int .i64 0, .int .i64 0, .int .i64 0] 58)).alloc (.cells #[.slice none 0 0, .slice none 0 0, .slice none 0 0, .slice none 0 0] 94)
 simp only [World.size_alloc] at hB
 clear sp ma hs hget hasK hne hvk hvk2 hvs hvs2 hK hS zK zS hm0 hm1 lK lS gK gS
 unfold aggV
 go_enter Tryz.func43, Tryz.ntmps43
 go_upto_region 1 with (fail)
 generalize World.alloc _ _ = w1 at hB kB ⊢
 generalize w.heap.size + 1 + 1 + 1 = RT at hB ⊢
 generalize w.heap.size + 1 + 1 = RV at hB ⊢
 generalize w.heap.size + 1 = X at hB ⊢
 generalize w.heap.size = V at hB ⊢
 have h2 := (hB.push 3).push 3
 have S0 := setS7 h2
 have HS0 := Lib.hid S0
 obtain ⟨⟨x0, x1, x2, x3, x4, x5, x6⟩, y0, y1, y2, y3, y4⟩ := S0
 go_upto_region 3 with (fail)
 have hp := SP.out _ _ ((h2.pull 6).pull 5 |>.drew)
 go_region_held3 (fun w' => (w'.cell? ⟨X, 0, none⟩ = some (.int .i64 n) ∧ w'.cell? ⟨X, 1, none⟩ = some (.bool true) ∧ w'.cell? ⟨X, 2, none⟩ = some (.int .i64 ou) ∧ w'.cell? ⟨X, 3, none⟩ = some (.string om) ∧ w'.cell? ⟨X, 4, none⟩ = some (.bool true) ∧ w'.cell? ⟨X, 5, none⟩ = some (.int .i64 nu) ∧ w'.cell? ⟨X, 6, none⟩ = some (.string nm)) ∧ (w'.cell? ⟨V, 0, none⟩ = some (.int .i64 v.n) ∧ w'.cell? ⟨V, 1, none⟩ = some (.int .i64 v.ks) ∧ w'.cell? ⟨V, 2, none⟩ = some (.int .i64 v.kg) ∧ w'.cell? ⟨V, 3, none⟩ = some (.int .i64 v.ss) ∧ w'.cell? ⟨V, 4, none⟩ = some (.int .i64 v.sg))) (first | with_reducible exact HS0.out | with_reducible exact SA | go_keep) ((go_at_call 44; (with_reducible refine hp.mono ?_); rintro e w3 ⟨rfl, h3, k3⟩; have SA := setS7 ((h3.pull 3).pull 3)))
 have k3 := kB.drew.trans k3
 clear hp HS0 x0 x1 x2 x3 x4 x5 x6 y0 y1 y2 y3 y4 h2 hB kB heq hnq
 have y0 := (h3.pull 3).cell 0
 have y1 := (h3.pull 3).cell 1
 have y2 := (h3.pull 3).cell 2
 have y3 := (h3.pull 3).cell 3
 have y4 := (h3.pull 3).cell 4
 simp at y0 y1 y2 y3 y4
 have h4 := ((((h3.tNil fH 56 2).tNil fH 56 2).tNil fH 56 2).tNil fH 56 2).alloc (.cells #[.pointer (some ⟨s, 0, none⟩), .int .i64 v.n, .int .i64 v.ks, .int .i64 v.kg, .int .i64 v.ss, .int .i64 v.sg, .slice none 0 0, .slice none 0 0, .slice none 0 0, .slice none 0 0, .bool false] 169)
 have k4 := k3.alloc (.cells #[.pointer (some ⟨s, 0, none⟩), .int .i64 v.n, .int .i64 v.ks, .int .i64 v.kg, .int .i64 v.ss, .int .i64 v.sg, .slice none 0 0, .slice none 0 0, .slice none 0 0, .slice none 0 0, .bool false] 169)
 have hvl := (h3.pull 3).lt
 clear SA
 go_upto_region 6 with (fail)
 generalize World.alloc _ _ = w4 at h4 k4 ⊢
 generalize w3.heap.size = W at h4 ⊢
 clear h3 k3 y0 y1 y2 y3 y4 hvl
 have h5 := ((workP_I (D := ⟨v, [], [], [], [], false⟩) h4).pull 7).push 2
 have x0 := (h5.pull 4).cell 0
 have x1 := (h5.pull 4).cell 1
 have x2 := (h5.pull 4).cell 2
 have x3 := (h5.pull 4).cell 3
 have x4 := (h5.pull 4).cell 4
 have x5 := (h5.pull 4).cell 5
 have x6 := (h5.pull 4).cell 6
 simp at x0 x1 x2 x3 x4 x5 x6
 have hm := MA.out _ _ _ h5
 clear h4
 go_wp2_with fail
 refine hm.mono ?_
 rintro e w7 ⟨rfl, D, AK2, FK2, AS2, FS2, h7, k7, hcase⟩
 have k7 := k4.trans k7
 clear hm h5 k4 x0 x1 x2 x3 x4 x5 x6
 obtain ⟨k1, k2, k3, k4, h8⟩ := workP_E h7
 obtain ⟨o1, m1, c1, rfl⟩ : ∃ o m c, k1 = .slice o m c := by obtain ⟨o, c, e⟩ := (h8.pull 1).tLen; exact ⟨o, _, c, e⟩
 obtain ⟨o2, m2, c2, rfl⟩ : ∃ o m c, k2 = .slice o m c := by obtain ⟨o, c, e⟩ := (h8.pull 2).tLen; exact ⟨o, _, c, e⟩
 obtain ⟨o3, m3, c3, rfl⟩ : ∃ o m c, k3 = .slice o m c := by obtain ⟨o, c, e⟩ := (h8.pull 3).tLen; exact ⟨o, _, c, e⟩
 obtain ⟨o4, m4, c4, rfl⟩ : ∃ o m c, k4 = .slice o m c := by obtain ⟨o, c, e⟩ := (h8.pull 4).tLen; exact ⟨o, _, c, e⟩
 have n1 := (h8.pull 10).ne
 have n1' := n1.symm
 have n2 := (h8.pull 11).ne
 have n2' := n2.symm
 have n3 := ((h8.pull 11).pull 11).ne
 have n3' := n3.symm
 have t0 := (h8.pull 10).cell 0
 have t1 := (h8.pull 10).cell 1
 have t2 := (h8.pull 10).cell 2
 have t3 := (h8.pull 10).cell 3
 have tf0 := (h8.pull 10).free 0
 have tf1 := (h8.pull 10).free 1
 have tf2 := (h8.pull 10).free 2
 have tf3 := (h8.pull 10).free 3
 simp at t0 t1 t2 t3
 have v0 := (h8.pull 11).cell 0
 have v1 := (h8.pull 11).cell 1
 have v2 := (h8.pull 11).cell 2
 have v3 := (h8.pull 11).cell 3
 have v4 := (h8.pull 11).cell 4
 have vf0 := (h8.pull 11).free 0
 have vf1 := (h8.pull 11).free 1
 have vf2 := (h8.pull 11).free 2
 have vf3 := (h8.pull 11).free 3
 have vf4 := (h8.pull 11).free 4
 simp at v0 v1 v2 v3 v4
 have hwl := h8.lt
 clear h7
 rcases hcase with ⟨TK, TS, hd, hdv, eK, eS⟩ | ⟨hd, sK, sS, hsh⟩
 case inr =>
   have d10 : w7.cell? ⟨W, 10, none⟩ = some (.bool false) := by have q := h8.cell 10; simp [workC, hd] at q; exact q
   have HR := Lib.hid (And.intro sK (And.intro sS hsh))
   clear sK sS hsh hd
   have g1 := (((((((h8.pull 11)).set 0 (.int .i64 0)).set 1 (.int .i64 0)).set 2 (.int .i64 0)).set 3 (.int .i64 0)).set 4 (.int .i64 0))
   have g2 := (((((g1.pull 11).set 0 (.slice none 0 0)).set 1 (.slice none 0 0)).set 2 (.slice none 0 0)).set 3 (.slice none 0 0))
   have q1 := (((((((((k7.setCell ⟨RV, 0, none⟩ (.int .i64 0)).setCell ⟨RV, 1, none⟩ (.int .i64 0)).setCell ⟨RV, 2, none⟩ (.int .i64 0)).setCell ⟨RV, 3, none⟩ (.int .i64 0)).setCell ⟨RV, 4, none⟩ (.int .i64 0)).setCell ⟨RT, 0, none⟩ (.slice none 0 0)).setCell ⟨RT, 1, none⟩ (.slice none 0 0)).setCell ⟨RT, 2, none⟩ (.slice none 0 0)).setCell ⟨RT, 3, none⟩ (.slice none 0 0))
   have HG := Lib.hid (((g2.tail.tail.tail.pull 7).tail.pull 7).tail.tail.tail.tail.tail)
   have HQ := Lib.hid q1
   clear g1 g2 q1 h8
   go_wp2_with fail
   refine bodyPost_ret (v := .tuple #[.agg #[.int .i64 0, .int .i64 0, .int .i64 0, .int .i64 0, .int .i64 0], .agg #[.slice none 0 0, .slice none 0 0, .slice none 0 0, .slice none 0 0], .bool false]) (by simp [results, Tryz.results43, go_sem, t0, tf0, t1, tf1, t2, tf2, t3, tf3, v0, vf0, v1, vf1, v2, vf2, v3, vf3, v4, vf4, n1, n1', n2, n2', n3, n3']) rfl ?_
   exact ⟨AK2, FK2, AS2, FS2, HQ.out, .inr ⟨rfl, HR.out.1, HR.out.2.1, HR.out.2.2, HG.out⟩⟩
 case inl =>
   have S0 : w7.cell? ⟨W, 1, none⟩ = some (.int .i64 v.n) ∧ w7.cell? ⟨W, 2, none⟩ = some (.int .i64 TK.root.s) ∧ w7.cell? ⟨W, 3, none⟩ = some (.int .i64 TK.root.g) ∧ w7.cell? ⟨W, 4, none⟩ = some (.int .i64 TS.root.s) ∧ w7.cell? ⟨W, 5, none⟩ = some (.int .i64 TS.root.g) ∧ w7.cell? ⟨W, 6, none⟩ = some (.slice o1 m1 c1) ∧ w7.cell? ⟨W, 7, none⟩ = some (.slice o2 m2 c2) ∧ w7.cell? ⟨W, 8, none⟩ = some (.slice o3 m3 c3) ∧ w7.cell? ⟨W, 9, none⟩ = some (.slice o4 m4 c4) := by
     have q1 := h8.cell 1
     have q2 := h8.cell 2
     have q3 := h8.cell 3
     have q4 := h8.cell 4
     have q5 := h8.cell 5
     simp [workC, hdv] at q1 q2 q3 q4 q5
     exact ⟨q1, q2, q3, q4, q5, h8.cell 6, h8.cell 7, h8.cell 8, h8.cell 9⟩
   have HS0 := Lib.hid S0
   have d10 : w7.cell? ⟨W, 10, none⟩ = some (.bool true) := by have q := h8.cell 10; simp [workC, hd] at q; exact q
   have HR := Lib.hid (And.intro eK eS)
   clear eK eS hd hdv
   go_upto_region 9 with (fail)
   obtain ⟨e1, e2, e3, e4, e5, e6, e7, e8, e9⟩ := S0
   have g1 := (((((((h8.pull 11)).set 0 (.int .i64 v.n)).set 1 (.int .i64 TK.root.s)).set 2 (.int .i64 TK.root.g)).set 3 (.int .i64 TS.root.s)).set 4 (.int .i64 TS.root.g))
   have g2 := (((((g1.pull 11).set 0 (.slice o1 m1 c1)).set 1 (.slice o2 m2 c2)).set 2 (.slice o3 m3 c3)).set 3 (.slice o4 m4 c4))
   have q1 := (((((((((k7.setCell ⟨RV, 0, none⟩ (.int .i64 v.n)).setCell ⟨RV, 1, none⟩ (.int .i64 TK.root.s)).setCell ⟨RV, 2, none⟩ (.int .i64 TK.root.g)).setCell ⟨RV, 3, none⟩ (.int .i64 TS.root.s)).setCell ⟨RV, 4, none⟩ (.int .i64 TS.root.g)).setCell ⟨RT, 0, none⟩ (.slice o1 m1 c1)).setCell ⟨RT, 1, none⟩ (.slice o2 m2 c2)).setCell ⟨RT, 2, none⟩ (.slice o3 m3 c3)).setCell ⟨RT, 3, none⟩ (.slice o4 m4 c4))
   go_region_held3 (fun w' => w'.cell? ⟨W, 1, none⟩ = some (.int .i64 v.n) ∧ w'.cell? ⟨W, 2, none⟩ = some (.int .i64 TK.root.s) ∧ w'.cell? ⟨W, 3, none⟩ = some (.int .i64 TK.root.g) ∧ w'.cell? ⟨W, 4, none⟩ = some (.int .i64 TS.root.s) ∧ w'.cell? ⟨W, 5, none⟩ = some (.int .i64 TS.root.g) ∧ w'.cell? ⟨W, 6, none⟩ = some (.slice o1 m1 c1) ∧ w'.cell? ⟨W, 7, none⟩ = some (.slice o2 m2 c2) ∧ w'.cell? ⟨W, 8, none⟩ = some (.slice o3 m3 c3) ∧ w'.cell? ⟨W, 9, none⟩ = some (.slice o4 m4 c4)) (first | with_reducible exact HS0.out | go_keep) ((fail))
   all_goals
     have G := g2.drew
     have Q := q1.drew
     clear g1 g2 q1 h8 t0 tf0 t1 tf1 t2 tf2 t3 tf3 v0 vf0 v1 vf1 v2 vf2 v3 vf3 v4 vf4 e1 e2 e3 e4 e5 e6 e7 e8 e9 d10 HS0
     generalize World.drew _ = w8 at G Q ⊢
     have t0 := (G).cell 0
     have t1 := (G).cell 1
     have t2 := (G).cell 2
     have t3 := (G).cell 3
     simp at t0 t1 t2 t3
     have v0 := (G.pull 1).cell 0
     have v1 := (G.pull 1).cell 1
     have v2 := (G.pull 1).cell 2
     have v3 := (G.pull 1).cell 3
     have v4 := (G.pull 1).cell 4
     simp at v0 v1 v2 v3 v4
     have HG := Lib.hid (((G.tail.tail.tail.pull 7).tail.pull 7).tail)
     have HQ := Lib.hid Q
     clear G Q
     go_wp2_with fail
     refine bodyPost_ret (v := .tuple #[.agg #[.int .i64 v.n, .int .i64 TK.root.s, .int .i64 TK.root.g, .int .i64 TS.root.s, .int .i64 TS.root.g], .agg #[.slice o1 m1 c1, .slice o2 m2 c2, .slice o3 m3 c3, .slice o4 m4 c4], .bool true]) (by simp [results, Tryz.results43, go_sem, t0, t1, t2, t3, v0, v1, v2, v3, v4]) rfl ?_
     exact ⟨AK2, FK2, AS2, FS2, HQ.out, .inl ⟨.slice o1 m1 c1, .slice o2 m2 c2, .slice o3 m3 c3, .slice o4 m4 c4, D.km, D.kg, D.sm, D.sg, TK, TS, rfl, HR.out.1, HR.out.2, HG.out⟩⟩
/-! ### a version of just these nodes, changed -/
theorem nodup_len_le {α : Type} : ∀ (l L : List α), l.Nodup → (∀ x ∈ l, x ∈ L) → l.length ≤ L.length
 | [], _, _, _ => Nat.zero_le _
 | x :: l, L, hn, h => by
   classical
   obtain ⟨h1, h2⟩ := List.nodup_cons.1 hn
   have hx := h x (List.mem_cons_self ..)
   have a := nodup_len_le l (L.erase x) h2 fun y hy => (List.mem_erase_of_ne (fun e => h1 (by rw [e] at hy; exact hy))).2 (h y (List.mem_cons_of_mem _ hy))
   rw [List.length_erase_of_mem hx] at a
   have : 0 < L.length := List.length_pos_of_mem hx
   simp only [List.length_cons]
   omega
theorem srt_keys {κ ν : Type} {C : κ → κ → Int} (ho : OrdC C) {T : HT κ ν} (hs : Srt C T) : ((toL T).map Prod.fst).Nodup := by
 unfold Srt at hs
 unfold List.Nodup
 rw [List.pairwise_map]
 exact hs.imp fun {a b} h e => by
   have e1 := (ho.eq a.1 b.1).2 e
   omega
theorem size_keys {κ ν : Type} {C : κ → κ → Int} (ho : OrdC C) {T : HT κ ν} (hs : Srt C T) (L : List κ) (h : ∀ x ∈ toL T, x.1 ∈ L) : T.size ≤ L.length := by
 have := nodup_len_le _ L (srt_keys ho hs) fun x hx => by
   obtain ⟨y, hy, rfl⟩ := List.mem_map.1 hx
   exact h y hy
 rwa [List.length_map, toL_len] at this
theorem VerR.of_ed {most : Int} {L L' : List KidD} {v : VerD} {AK AK2 : List SlotK} {FK FK2 : List Int} {AS AS2 : List SlotS} {FS FS2 : List Int} {GK GS j : Nat} {tK TK : HTK} {tS TS : HTS} {km kg sm sg : List Hd} {PK : KidD × Bool → Prop} {PS : Int × SpD → Prop}
   (h : VerR most L v AK FK AS FS GK GS tK tS) (eK : EdE kord most AK FK GK tK AK2 FK2 TK km kg PK j) (eS : EdE cmpI most AS FS GS tS AS2 FS2 TS sm sg PS 1)
   (hk : ∀ x, PK x ↔ x.2 = true ∧ x.1 ∈ L') (hp : ∀ n sp, PS (n, sp) ↔ ∃ y ∈ L', y.node = n ∧ sp = ⟨true, y.up, y.name⟩) :
   ∃ GK' GS' : Nat, GK' ≤ GK + j * (tK.size + 2) ∧ GS' ≤ GS + 1 * (tS.size + 2) ∧ VerR most L' { v with ks := TK.root.s, kg := TK.root.g, ss := TS.root.s, sg := TS.root.g } AK2 FK2 AS2 FS2 GK' GS' TK TS ∧ ALe AK AK2 ∧ ALe AS AS2 := by
 obtain ⟨GK', g1, wK⟩ := eK.wk
 obtain ⟨GS', g2, wS⟩ := eS.wk
 have mK : ∀ x, x ∈ toL TK ↔ x.2 = true ∧ x.1 ∈ L' := fun x => (eK.mem x).trans (hk x)
 have mS : ∀ n sp, (n, sp) ∈ toL TS ↔ ∃ y ∈ L', y.node = n ∧ sp = ⟨true, y.up, y.name⟩ := fun n sp => (eS.mem (n, sp)).trans (hp n sp)
 refine ⟨GK', GS', g1, g2, ⟨⟨wK.rep, wK.hi, eK.srt, wK.wf⟩, ⟨wS.rep, wS.hi, eS.srt, wS.wf⟩, rfl, rfl, rfl, rfl, mK, mS, ?_, ?_, eK.len, eS.len⟩, wK.le, wS.le⟩
 · exact size_keys kord_ord eK.srt L' fun x hx => ((mK x).1 hx).2
 · have := size_keys cmpI_ord eS.srt (L'.map KidD.node) fun x hx => by
     obtain ⟨n, sp⟩ := x
     obtain ⟨y, hy, h1, _⟩ := (mS n sp).1 hx
     exact List.mem_map.2 ⟨y, hy, h1⟩
   rwa [List.length_map] at this
theorem VerR.of_same {most : Int} {L : List KidD} {v : VerD} {AK AK2 : List SlotK} {FK FK2 : List Int} {AS AS2 : List SlotS} {FS FS2 : List Int} {GK GS zk zs : Nat} {tK : HTK} {tS : HTS}
   (h : VerR most L v AK FK AS FS GK GS tK tS) (eK : SameE most AK FK GK AK2 FK2 zk) (eS : SameE most AS FS GS AS2 FS2 zs) :
   ∃ GK' GS' : Nat, GK' ≤ GK + zk ∧ GS' ≤ GS + zs ∧ VerR most L v AK2 FK2 AS2 FS2 GK' GS' tK tS ∧ ALe AK AK2 ∧ ALe AS AS2 := by
 obtain ⟨GK', a⟩ := eK
 obtain ⟨GS', b⟩ := eS
 have l1 : ALe AK AK2 := fun x s hx => (a.iff x s).2 hx
 have l2 : ALe AS AS2 := fun x s hx => (b.iff x s).2 hx
 exact ⟨GK', GS', a.g, b.g, ⟨⟨h.k.rep.mono l1, h.k.hi, h.k.srt, a.wf⟩, ⟨h.s.rep.mono l2, h.s.hi, h.s.srt, b.wf⟩, h.ks, h.kg, h.ss, h.sg, h.kids, h.spots, h.zk, h.zs, a.len, b.len⟩, l1, l2⟩
/-- The nodes behind a node's being put somewhere. -/
noncomputable def putKL (L : List KidD) (k : KidD) : List KidD := L.filter (fun y => decide (y.node ≠ k.node)) ++ [k]
theorem mem_putKL {L : List KidD} {k y : KidD} : y ∈ putKL L k ↔ y = k ∨ y ∈ L ∧ y.node ≠ k.node := by
 unfold putKL
 rw [List.mem_append, List.mem_filter, List.mem_singleton, decide_eq_true_iff]
 exact Or.comm
theorem len_putKL (L : List KidD) (k : KidD) : (putKL L k).length ≤ L.length + 1 := by
 unfold putKL
 rw [List.length_append]
 have := List.length_filter_le (fun y : KidD => decide (y.node ≠ k.node)) L
 simp only [List.length_singleton]
 omega
theorem nodup_putKL {L : List KidD} (h : (L.map KidD.node).Nodup) (k : KidD) : ((putKL L k).map KidD.node).Nodup := by
 unfold putKL
 rw [List.map_append]
 refine List.nodup_append.2 ⟨List.Nodup.sublist (List.filter_sublist.map _) h, by simp, fun a ha b hb e => ?_⟩
 obtain ⟨y, hy, rfl⟩ := List.mem_map.1 ha
 have h1 := (List.mem_filter.1 hy).2
 rw [decide_eq_true_iff] at h1
 obtain rfl : b = k.node := by simpa using hb
 exact h1 e
theorem node_inj {L : List KidD} (h : (L.map KidD.node).Nodup) {a b : KidD} (ha : a ∈ L) (hb : b ∈ L) (e : a.node = b.node) : a = b := by
 induction L with
 | nil => cases ha
 | cons x L ih =>
   rw [List.map_cons, List.nodup_cons] at h
   rcases List.mem_cons.1 ha with h1 | h1
   · rcases List.mem_cons.1 hb with h2 | h2
     · rw [h1, h2]
     · exact absurd (List.mem_map.2 ⟨b, h2, by rw [← e, h1]⟩) h.1
   · rcases List.mem_cons.1 hb with h2 | h2
     · exact absurd (List.mem_map.2 ⟨a, h1, by rw [e, h2]⟩) h.1
     · exact ih h.2 h1 h2
/-- What a node's being put somewhere comes to: there's a version more, or there's none, and all is as it was. -/
def OldR (most : Int) (L : List KidD) (v : VerD) (AK : List SlotK) (GK GS : Nat) (tK : HTK) (tS : HTS) (ok : Bool) (v' : VerD) (AK2 : List SlotK) (FK2 : List Int) (AS2 : List SlotS) (FS2 : List Int) : Prop :=
 ∃ (L' : List KidD) (GK' GS' : Nat) (tK' : HTK) (tS' : HTS), VerR most L' (if ok = true then v' else v) AK2 FK2 AS2 FS2 GK' GS' tK' tS' ∧ ALe AK AK2 ∧ (L'.map KidD.node).Nodup ∧ L'.length ≤ L.length + 1 ∧ GK' ≤ GK + 2 * (tK.size + 2) ∧ GS' ≤ GS + 2 * (tS.size + 2)
theorem set_old {w : World} {l : List HProp} {s mk ms : Nat} {n nu : Int} {nm : ByteArray} {v : VerD} {most : Int} {L : List KidD} {AK : List SlotK} {FK : List Int} {AS : List SlotS} {FS : List Int} {GK GS : Nat} {tK : HTK} {tS : HTS}
   (hs : Sat w (own s (.cells (stoC mk ms) 80 (0, 0)) :: mapK mk most AK FK :: mapS ms most AS FS :: l)) (h : VerR most L v AK FK AS FS GK GS tK tS) (hn : (L.map KidD.node).Nodup) (hL : L.length ≤ 10000)
   (hm0 : 0 ≤ most) (hm1 : most ≤ 1000000) (gK : GK + 400000 < 1000000000000) (gS : GS + 400000 < 1000000000000) :
   Calls Tryz.prog 43 #[.pointer (some ⟨s, 0, none⟩), aggV v, .agg #[.int .i64 n, .bool ((getT cmpI n tS).getD spD0).inn, .int .i64 ((getT cmpI n tS).getD spD0).up, .string ((getT cmpI n tS).getD spD0).nm, .bool true, .int .i64 nu, .string nm]] w fun e w' =>
     ∃ (ok : Bool) (v' : VerD) (o1 o2 o3 o4 : Option Addr) (m1 m2 m3 m4 c1 c2 c3 c4 : Nat) (AK2 : List SlotK) (FK2 : List Int) (AS2 : List SlotS) (FS2 : List Int), e = .returned (.tuple #[aggV v', .agg #[.slice o1 m1 c1, .slice o2 m2 c2, .slice o3 m3 c3, .slice o4 m4 c4], .bool ok]) ∧ OldR most L v AK GK GS tK tS ok v' AK2 FK2 AS2 FS2 ∧
       Sat w' (own s (.cells (stoC mk ms) 80 (0, 0)) :: mapK mk most AK2 FK2 :: mapS ms most AS2 FS2 :: l) ∧ Kp w w' := by
 have zK := h.zk
 have zS := h.zs
 cases hg : getT cmpI n tS with
 | none =>
   have hno : ∀ y ∈ L, y.node ≠ n := fun y hy e => by
     have := (getT_iff cmpI_ord h.s.srt).2 ((h.spots n ⟨true, y.up, y.name⟩).2 ⟨y, hy, e, rfl⟩)
     rw [hg] at this
     cases this
   refine (store_set_P (n := n) (nu := nu) (nm := nm) hs hg h.ks h.kg h.ss h.sg h.k h.s (by omega) (by omega) hm0 hm1 h.lk h.ls gK gS).mono ?_
   rintro e w1 ⟨AK2, FK2, AS2, FS2, k1, ⟨q1, q2, q3, q4, km, kg, sm, sg, TK, TS, rfl, eK, eS, h1⟩ | ⟨rfl, eK, eS, _, h1⟩⟩
   · obtain ⟨o1, m1, c1, rfl⟩ : ∃ o m c, q1 = .slice o m c := by obtain ⟨o, c, e⟩ := h1.tLen; exact ⟨o, _, c, e⟩
     obtain ⟨o2, m2, c2, rfl⟩ : ∃ o m c, q2 = .slice o m c := by obtain ⟨o, c, e⟩ := (h1.pull 1).tLen; exact ⟨o, _, c, e⟩
     obtain ⟨o3, m3, c3, rfl⟩ : ∃ o m c, q3 = .slice o m c := by obtain ⟨o, c, e⟩ := (h1.pull 2).tLen; exact ⟨o, _, c, e⟩
     obtain ⟨o4, m4, c4, rfl⟩ : ∃ o m c, q4 = .slice o m c := by obtain ⟨o, c, e⟩ := (h1.pull 3).tLen; exact ⟨o, _, c, e⟩
     obtain ⟨GK', GS', g1, g2, hV, l1, l2⟩ := h.of_ed (L' := L ++ [⟨nu, nm, n⟩]) eK eS (fun x => by
       rw [h.kids, List.mem_append, List.mem_singleton]
       constructor
       · rintro (rfl | ⟨⟨a, b⟩, c⟩)
         · exact ⟨rfl, .inr rfl⟩
         · exact ⟨a, .inl b⟩
       · rintro ⟨a, b | b⟩
         · exact .inr ⟨⟨a, b⟩, fun e => hno _ b (by rw [e])⟩
         · exact .inl (by cases x; simp_all)) (fun n' sp => by
       rw [h.spots]
       constructor
       · rintro (e | ⟨⟨y, hy, a, b⟩, _⟩)
         · simp only [Prod.mk.injEq] at e
           exact ⟨⟨nu, nm, n⟩, by simp, e.1.symm, e.2⟩
         · exact ⟨y, List.mem_append_left _ hy, a, b⟩
       · rintro ⟨y, hy, a, b⟩
         rcases List.mem_append.1 hy with hy | hy
         · exact .inr ⟨⟨y, hy, a, b⟩, fun e => hno y hy (a.trans e)⟩
         · obtain rfl := List.mem_singleton.1 hy
           exact .inl (by rw [← a, b]))
     refine ⟨true, _, o1, o2, o3, o4, m1, m2, m3, m4, c1, c2, c3, c4, AK2, FK2, AS2, FS2, rfl, ⟨_, GK', GS', TK, TS, hV, l1, ?_, by simp, by omega, by omega⟩, h1.tail.tail.tail.tail, k1⟩
     rw [List.map_append]
     refine List.nodup_append.2 ⟨hn, by simp, fun a ha b hb e => ?_⟩
     obtain ⟨y, hy, rfl⟩ := List.mem_map.1 ha
     obtain rfl : b = n := by simpa using hb
     exact hno y hy e
   · obtain ⟨GK', GS', g1, g2, hV, l1, l2⟩ := h.of_same eK eS
     exact ⟨false, ⟨0, 0, 0, 0, 0⟩, none, none, none, none, 0, 0, 0, 0, 0, 0, 0, 0, AK2, FK2, AS2, FS2, rfl, ⟨L, GK', GS', tK, tS, hV, l1, hn, by omega, g1, g2⟩, h1, k1⟩
 | some sp =>
   obtain ⟨y0, hy0, hy1, rfl⟩ := (h.spots n sp).1 ((getT_iff cmpI_ord h.s.srt).1 hg)
   by_cases hsame : (⟨true, y0.up, y0.name⟩ : SpD) = ⟨true, nu, nm⟩
   · simp only [SpD.mk.injEq, true_and] at hsame
     obtain ⟨rfl, rfl⟩ := hsame
     refine (store_set_same v hs).mono ?_
     rintro e w1 ⟨rfl, h1, k1⟩
     exact ⟨false, ⟨0, 0, 0, 0, 0⟩, none, none, none, none, 0, 0, 0, 0, 0, 0, 0, 0, AK, FK, AS, FS, rfl, ⟨L, GK, GS, tK, tS, h, ALe.refl _, hn, by omega, by omega, by omega⟩, h1, k1⟩
   · have hy2 : (⟨y0.up, y0.name, n⟩ : KidD) = y0 := by rw [← hy1]
     have hkk : (getT kord (⟨y0.up, y0.name, n⟩ : KidD) tK).isSome = true := by
       rw [hy2, (getT_iff kord_ord h.k.srt).2 ((h.kids (y0, true)).2 ⟨rfl, hy0⟩)]
       rfl
     refine (store_set_M (n := n) (nu := nu) (nm := nm) hs hg hkk hsame h.ks h.kg h.ss h.sg h.k h.s (by omega) (by omega) hm0 hm1 h.lk h.ls gK gS).mono ?_
     rintro e w1 ⟨AK2, FK2, AS2, FS2, k1, ⟨q1, q2, q3, q4, km, kg, sm, sg, TK, TS, rfl, eK, eS, h1⟩ | ⟨rfl, eK, eS, _, h1⟩⟩
     · obtain ⟨o1, m1, c1, rfl⟩ : ∃ o m c, q1 = .slice o m c := by obtain ⟨o, c, e⟩ := h1.tLen; exact ⟨o, _, c, e⟩
       obtain ⟨o2, m2, c2, rfl⟩ : ∃ o m c, q2 = .slice o m c := by obtain ⟨o, c, e⟩ := (h1.pull 1).tLen; exact ⟨o, _, c, e⟩
       obtain ⟨o3, m3, c3, rfl⟩ : ∃ o m c, q3 = .slice o m c := by obtain ⟨o, c, e⟩ := (h1.pull 2).tLen; exact ⟨o, _, c, e⟩
       obtain ⟨o4, m4, c4, rfl⟩ : ∃ o m c, q4 = .slice o m c := by obtain ⟨o, c, e⟩ := (h1.pull 3).tLen; exact ⟨o, _, c, e⟩
       rw [hy2] at eK
       obtain ⟨GK', GS', g1, g2, hV, l1, l2⟩ := h.of_ed (L' := putKL L ⟨nu, nm, n⟩) eK eS (fun x => by
         rw [h.kids, mem_putKL]
         constructor
         · rintro (rfl | ⟨⟨⟨a, b⟩, c⟩, d⟩)
           · exact ⟨rfl, .inl rfl⟩
           · exact ⟨a, .inr ⟨b, fun e => c (node_inj hn b hy0 (e.trans hy1.symm))⟩⟩
         · rintro ⟨a, b | ⟨b, c⟩⟩
           · exact .inl (by cases x; simp_all)
           · refine .inr ⟨⟨⟨a, b⟩, fun e => c ?_⟩, fun e => c ?_⟩
             · rw [e]; exact hy1
             · rw [e]) (fun n' sp => by
         rw [h.spots]
         constructor
         · rintro (e | ⟨⟨y, hy, a, b⟩, c⟩)
           · simp only [Prod.mk.injEq] at e
             exact ⟨⟨nu, nm, n⟩, mem_putKL.2 (.inl rfl), e.1.symm, e.2⟩
           · exact ⟨y, mem_putKL.2 (.inr ⟨hy, fun e => c (a.symm.trans e)⟩), a, b⟩
         · rintro ⟨y, hy, a, b⟩
           rcases mem_putKL.1 hy with rfl | ⟨hy, c⟩
           · exact .inl (by rw [← a, b])
           · exact .inr ⟨⟨y, hy, a, b⟩, fun e => c (a.trans e)⟩)
       exact ⟨true, _, o1, o2, o3, o4, m1, m2, m3, m4, c1, c2, c3, c4, AK2, FK2, AS2, FS2, rfl, ⟨_, GK', GS', TK, TS, hV, l1, nodup_putKL hn _, len_putKL _ _, by omega, by omega⟩, h1.tail.tail.tail.tail, k1⟩
     · obtain ⟨GK', GS', g1, g2, hV, l1, l2⟩ := h.of_same eK eS
       exact ⟨false, ⟨0, 0, 0, 0, 0⟩, none, none, none, none, 0, 0, 0, 0, 0, 0, 0, 0, AK2, FK2, AS2, FS2, rfl, ⟨L, GK', GS', tK, tS, hV, l1, hn, by omega, g1, g2⟩, h1, k1⟩
/-! ### a version is read as it was, whatever is made of it -/
theorem SubT.mono {A A2 : List SlotK} {L : List KidD} {t : HTK} (hA : ALe A A2) (h : SubT A L t) : SubT A2 L t := ⟨h.rep.mono hA, h.hi, h.srt, h.sub⟩
theorem BaseV.mono {f : Int → Option Loc} {L : List KidD} {A A2 : List SlotK} {T : HTK} {v : VerD} (hA : ALe A A2) (h : BaseV f L A T v) : BaseV f L A2 T v := ⟨h.enum, h.pos, h.sub.mono hA, h.all, h.ks, h.kg⟩
theorem FinI.mono {f : Int → Option Loc} {L : List KidD} {A A2 : List SlotK} {T : HTK} {list : Bool} {v : VerD} {N : Nat} {a e : Int} {D : FindD} (hA : ALe A A2) (h : FinI f L A T list v N a e D) : FinI f L A2 T list v N a e D := by
 cases h with
 | done h => exact .done h
 | down t x r c h => exact .down t x r c ⟨h.next, h.want, h.leaf, h.sub.mono hA, h.names, h.v, h.list, h.stack, h.kids, h.node, h.find, h.reach, h.len, h.loads, h.seek⟩
 | through t ts h => exact .through t ts ⟨h.next, h.want, h.leaf, h.sub.mono hA, h.names, h.v, h.list, h.e0, h.at0, h.node, h.reach, h.stack, fun t ht => (h.subs t ht).mono hA, h.kids, h.loads⟩
theorem StepI.mono {f : Int → Option Loc} {L : List KidD} {A A2 : List SlotK} {T : HTK} {list : Bool} {v : VerD} {N : Nat} {a e : Int} {D : FindD} (hA : ALe A A2) (h : StepI f L A T list v N a e D) : StepI f L A2 T list v N a e D := ⟨h.fin.mono hA, h.l0, h.st⟩
/-- What is made meanwhile. -/
structure MadeI (i : Nat) (L : List KidD) (u : VerD) (AK : List SlotK) (FK : List Int) (AS : List SlotS) (FS : List Int) (GK GS : Nat) (tK : HTK) (tS : HTS) : Prop where
 ver : VerR 2000 L u AK FK AS FS GK GS tK tS
 nodup : (L.map KidD.node).Nodup
 len : L.length ≤ 8 + i
 gK : GK ≤ 1000 + 300 * i
 gS : GS ≤ 1000 + 300 * i
theorem MadeI.next {i : Nat} {L : List KidD} {u v' : VerD} {AK AK2 : List SlotK} {FK FK2 : List Int} {AS AS2 : List SlotS} {FS FS2 : List Int} {GK GS : Nat} {tK : HTK} {tS : HTS} {ok : Bool} (hi : i ≤ 90) (h : MadeI i L u AK FK AS FS GK GS tK tS) (hO : OldR 2000 L u AK GK GS tK tS ok v' AK2 FK2 AS2 FS2) :
   ALe AK AK2 ∧ ∃ (L' : List KidD) (GK' GS' : Nat) (tK' : HTK) (tS' : HTS), MadeI (i + 1) L' (if ok = true then v' else u) AK2 FK2 AS2 FS2 GK' GS' tK' tS' := by
 obtain ⟨L', GK', GS', tK', tS', hV, hle, hn, hl, g1, g2⟩ := hO
 have a := h.len
 have b := h.gK
 have c := h.gS
 have d := h.ver.zk
 have e := h.ver.zs
 exact ⟨hle, L', GK', GS', tK', tS', hV, hn, by omega, by omega, by omega⟩
theorem MadeI.stay {i : Nat} {L : List KidD} {u : VerD} {AK : List SlotK} {FK : List Int} {AS : List SlotS} {FS : List Int} {GK GS : Nat} {tK : HTK} {tS : HTS} (h : MadeI i L u AK FK AS FS GK GS tK tS) : MadeI (i + 1) L u AK FK AS FS GK GS tK tS :=
 ⟨h.ver, h.nodup, by have := h.len; omega, by have := h.gK; omega, by have := h.gS; omega⟩
theorem oldS {w : World} {l : List HProp} {V O : Nat} {v : VerD} {o : OpD} {tv tq : TypeId} (h : Sat w (own V (.cells #[.int .i64 v.n, .int .i64 v.ks, .int .i64 v.kg, .int .i64 v.ss, .int .i64 v.sg] tv (0, 0)) :: own O (.cells #[.int .i64 o.n, .int .i64 o.r, .int .i64 o.node, .int .i64 o.up, .string o.name] tq (0, 0)) :: l)) :
   (w.cell? ⟨V, 0, none⟩ = some (.int .i64 v.n) ∧ w.cell? ⟨V, 1, none⟩ = some (.int .i64 v.ks) ∧ w.cell? ⟨V, 2, none⟩ = some (.int .i64 v.kg) ∧ w.cell? ⟨V, 3, none⟩ = some (.int .i64 v.ss) ∧ w.cell? ⟨V, 4, none⟩ = some (.int .i64 v.sg)) ∧
   (w.cell? ⟨O, 2, none⟩ = some (.int .i64 o.node) ∧ w.cell? ⟨O, 3, none⟩ = some (.int .i64 o.up) ∧ w.cell? ⟨O, 4, none⟩ = some (.string o.name)) :=
 ⟨⟨h.cell 0, h.cell 1, h.cell 2, h.cell 3, h.cell 4⟩, (h.pull 1).cell 2, (h.pull 1).cell 3, (h.pull 1).cell 4⟩
end Go.Proofs.YtddglbjhhnipgaaGreatDoor

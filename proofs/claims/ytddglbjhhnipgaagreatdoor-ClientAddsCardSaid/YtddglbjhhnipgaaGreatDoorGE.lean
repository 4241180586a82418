import Derived.Test.YtddglbjhhnipgaaGreatDoorGC
import Derived.Test.YtddglbjhhnipgaaGreatDoorGD
import Derived.Laws.StructEq
namespace Go.Proofs.YtddglbjhhnipgaaGreatDoor
open Go Go.RowKit
set_option linter.unusedVariables false
set_option linter.unusedSimpArgs false
set_option maxRecDepth 100000
set_option maxHeartbeats 8000000
theorem Sat.tPut' {α : Type} {f : α → List Value} {w : World} {e : TypeId} {size : Nat} {xs : List α} {l : List HProp} {g off n cap : Nat} (hf : ∀ x, (f x).length = size) (hs : Sat w (rowT f (.slice (some ⟨g, off, none⟩) n cap) e size xs :: l)) (i : Nat) (y : α) (hi : i < xs.length) :
   Sat (World.putCells w g (off + i * size) (f y)) (rowT f (.slice (some ⟨g, off, none⟩) n cap) e size (xs.set i y) :: l) := by
 obtain ⟨_, hn, _⟩ := hs.tCap
 rw [hn] at hs ⊢
 exact hs.tPut hf i y hi
theorem take_one {α : Type} {l : List α} {x : α} (h : l[0]? = some x) : l.take 1 = [x] := by
 cases l with
 | nil => simp at h
 | cons y l => simp at h; subst h; rfl
theorem drop_at {α : Type} {l : List α} {i : Nat} (h : i < l.length) : ∃ x, l[i]? = some x ∧ l.drop i = x :: l.drop (i + 1) ∧ l.take (i + 1) = l.take i ++ [x] :=
 ⟨l[i], by simp, by rw [List.drop_eq_getElem_cons h], take_snoc' (by simp)⟩
theorem put3 (w : World) (g a : Nat) (k : KidD) : World.putCells w g a (fK k) = ((w.setCell ⟨g, a, none⟩ (.int .i64 k.up)).setCell ⟨g, a + 1, none⟩ (.string k.name)).setCell ⟨g, a + 2, none⟩ (.int .i64 k.node) := rfl
theorem cells6 {w : World} {l : List HProp} {g off n cap j m : Nat} {xs : List KidD} {x y : KidD} (h : Sat w (rowT fK (.slice (some ⟨g, off, none⟩) n cap) 73 3 xs :: l)) (gx : xs[j]? = some x) (gy : xs[m]? = some y) :
   w.cell? ⟨g, off + j * 3, none⟩ = some (.int .i64 x.up) ∧ w.cell? ⟨g, off + j * 3 + 1, none⟩ = some (.string x.name) ∧ w.cell? ⟨g, off + j * 3 + 2, none⟩ = some (.int .i64 x.node) ∧ w.cell? ⟨g, off + m * 3, none⟩ = some (.int .i64 y.up) ∧ w.cell? ⟨g, off + m * 3 + 1, none⟩ = some (.string y.name) ∧ w.cell? ⟨g, off + m * 3 + 2, none⟩ = some (.int .i64 y.node) :=
 ⟨h.tCell len_fK j 0 gx rfl, h.tCell len_fK j 1 gx rfl, h.tCell len_fK j 2 gx rfl, h.tCell len_fK m 0 gy rfl, h.tCell len_fK m 1 gy rfl, h.tCell len_fK m 2 gy rfl⟩
theorem bits_len64 {w : World} {x : Int} (h0 : 0 ≤ x) (h1 : x ≤ 100) : Calls Tryz.prog 207 #[.int .u64 x] w fun e w' => ∃ k, e = .returned (.int .i64 k) ∧ w = w' := by
 go_enter Tryz.func207, Tryz.ntmps207
 go_wp2
 all_goals
   go_ret
   exact ⟨_, rfl, rfl⟩
theorem bits_len {w : World} {x : Int} (h0 : 0 ≤ x) (h1 : x ≤ 100) : Calls Tryz.prog 176 #[.int .u64 x] w fun e w' => ∃ k, e = .returned (.int .i64 k) ∧ w = w' := by
 go_enter Tryz.func176, Tryz.ntmps176
 go_wp2_with fail
 refine (bits_len64 h0 h1).mono ?_
 rintro e w1 ⟨k, rfl, rfl⟩
 go_wp2_with fail
 go_ret
 exact ⟨k, rfl, rfl⟩
theorem Tryz.infoKid : (Tryz.prog.info? 73).map (fun i => (i.zero, i.size, i.bytes)) = some (some (.agg #[.int .i64 0, .string ⟨#[]⟩, .int .i64 0]), 3, 32) := by kernel_rfl
def kidOf (p : Int × Loc) : KidD := ⟨p.2.up, p.2.name, p.1⟩
def kidsOf (test : Int × Loc → Bool) (S : List (Int × Loc)) : List KidD := (S.filter test).map kidOf
/-- S is all that a tree has, each once. -/
structure Enum (f : Int → Option Loc) (S : List (Int × Loc)) : Prop where
 all : ∀ k s, f k = some s → (k, s) ∈ S
 mem : ∀ p ∈ S, f p.1 = some p.2
 nodup : (S.map Prod.fst).Nodup
theorem kidsOf_snoc (test : Int × Loc → Bool) (S : List (Int × Loc)) (p : Int × Loc) : kidsOf test (S ++ [p]) = if test p then kidsOf test S ++ [kidOf p] else kidsOf test S := by
 unfold kidsOf
 rw [List.filter_append, List.map_append]
 cases h : test p <;> simp [h]
theorem kidsOf_len (test : Int × Loc → Bool) (S : List (Int × Loc)) : (kidsOf test S).length ≤ S.length := by
 unfold kidsOf
 rw [List.length_map]
 exact List.length_filter_le _ _
/-! ### the order of nodes is strict and total -/
theorem bl_cons (a b : UInt8) (x y : List UInt8) : Op.bytesLess (a :: x) (b :: y) = true ↔ a.toNat < b.toNat ∨ (a = b ∧ Op.bytesLess x y = true) := by
 simp only [Op.bytesLess, Bool.or_eq_true, decide_eq_true_eq, Bool.and_eq_true, beq_iff_eq]
 rw [UInt8.lt_iff_toNat_lt]
theorem bl_irr : ∀ x : List UInt8, Op.bytesLess x x = false
 | [] => rfl
 | a :: x => by
   cases h : Op.bytesLess (a :: x) (a :: x) with
   | false => rfl
   | true =>
     rcases (bl_cons a a x x).1 h with h | ⟨_, h⟩
     · omega
     · rw [bl_irr x] at h; cases h
theorem bl_trans : ∀ x y z : List UInt8, Op.bytesLess x y = true → Op.bytesLess y z = true → Op.bytesLess x z = true
 | _, [], _, h, _ => by cases ‹List UInt8› <;> simp [Op.bytesLess] at h
 | _, _ :: _, [], _, h => by simp [Op.bytesLess] at h
 | [], _ :: _, _ :: _, _, _ => rfl
 | a :: x, b :: y, c :: z, h1, h2 => by
   rw [bl_cons] at h1 h2 ⊢
   rcases h1 with h1 | ⟨rfl, h1⟩
   · rcases h2 with h2 | ⟨rfl, h2⟩
     · exact .inl (by omega)
     · exact .inl h1
   · rcases h2 with h2 | ⟨rfl, h2⟩
     · exact .inl h2
     · exact .inr ⟨rfl, bl_trans x y z h1 h2⟩
theorem bl_tri : ∀ x y : List UInt8, Op.bytesLess x y = true ∨ x = y ∨ Op.bytesLess y x = true
 | [], [] => .inr (.inl rfl)
 | [], _ :: _ => .inl rfl
 | _ :: _, [] => .inr (.inr rfl)
 | a :: x, b :: y => by
   rw [bl_cons, bl_cons]
   rcases Nat.lt_trichotomy a.toNat b.toNat with h | h | h
   · exact .inl (.inl h)
   · have hab : a = b := UInt8.toNat_inj.1 h
     subst hab
     rcases bl_tri x y with h | h | h
     · exact .inl (.inr ⟨rfl, h⟩)
     · exact .inr (.inl (by rw [h]))
     · exact .inr (.inr (.inr ⟨rfl, h⟩))
   · exact .inr (.inr (.inl h))
theorem name_eq {a b : ByteArray} (h : a.toList = b.toList) : a = b := by
 have := Go.beq_toListBytes a b
 rw [h] at this
 simp only [beq_self_eq_true] at this
 exact (MapKept.bytes_beq a b).1 this
def kL (a b : KidD) : Prop := a.up < b.up ∨ (a.up = b.up ∧ (Op.bytesLess a.name.toList b.name.toList = true ∨ (a.name = b.name ∧ a.node < b.node)))
theorem klt_iff (a b : KidD) : klt a b = true ↔ kL a b := by
 unfold klt kord or3 cmpI cmpS slt sEq kL
 rw [decide_eq_true_iff]
 rcases Int.lt_trichotomy a.up b.up with h | h | h
 · simp [h]
 · rw [h]
   simp only [Int.lt_irrefl, if_false, if_true, false_or, true_and]
   rcases bl_tri a.name.toList b.name.toList with h2 | h2 | h2
   · simp [h2]
   · have hn : a.name = b.name := name_eq h2
     rw [hn, bl_irr]
     rcases Int.lt_trichotomy a.node b.node with h3 | h3 | h3
     · simp [h3]
     · simp [h3]
     · have : ¬ a.node < b.node := by omega
       simp [h3, this]
   · have hne : a.name ≠ b.name := fun e => by rw [e, bl_irr] at h2; cases h2
     have hf : Op.bytesLess a.name.toList b.name.toList = false := by
       cases hx : Op.bytesLess a.name.toList b.name.toList with
       | false => rfl
       | true => have := bl_trans _ _ _ hx h2; rw [bl_irr] at this; cases this
     have hs : (a.name.toList == b.name.toList) = false := by
       rw [beq_eq_false_iff_ne]
       exact fun e => hne (name_eq e)
     simp [hf, hs, hne]
 · have h1 : ¬ a.up < b.up := by omega
   have h2 : ¬ a.up = b.up := by omega
   simp [h, h1, h2]
theorem strict_klt : Strict klt where
 irr a := by
   cases h : klt a a with
   | false => rfl
   | true =>
     rcases (klt_iff a a).1 h with h | ⟨_, h | ⟨_, h⟩⟩
     · omega
     · rw [bl_irr] at h; cases h
     · omega
 trans a b c h1 h2 := by
   rw [klt_iff] at h1 h2 ⊢
   unfold kL at h1 h2 ⊢
   rcases h1 with h1 | ⟨e1, h1⟩
   · rcases h2 with h2 | ⟨e2, h2⟩
     · exact .inl (by omega)
     · exact .inl (by omega)
   · rcases h2 with h2 | ⟨e2, h2⟩
     · exact .inl (by omega)
     · refine .inr ⟨by omega, ?_⟩
       rcases h1 with h1 | ⟨n1, h1⟩
       · rcases h2 with h2 | ⟨n2, h2⟩
         · exact .inl (bl_trans _ _ _ h1 h2)
         · rw [← n2]; exact .inl h1
       · rcases h2 with h2 | ⟨n2, h2⟩
         · rw [n1]; exact .inl h2
         · exact .inr ⟨n1.trans n2, by omega⟩
 tri a b := by
   rw [klt_iff, klt_iff]
   unfold kL
   rcases Int.lt_trichotomy a.up b.up with h | h | h
   · exact .inl (.inl h)
   · rcases bl_tri a.name.toList b.name.toList with h2 | h2 | h2
     · exact .inl (.inr ⟨h, .inl h2⟩)
     · have hn := name_eq h2
       rcases Int.lt_trichotomy a.node b.node with h3 | h3 | h3
       · exact .inl (.inr ⟨h, .inr ⟨hn, h3⟩⟩)
       · exact .inr (.inl (by cases a; cases b; simp_all))
       · exact .inr (.inr (.inr ⟨h.symm, .inr ⟨hn.symm, h3⟩⟩))
     · exact .inr (.inr (.inr ⟨h.symm, .inl h2⟩))
   · exact .inr (.inr (.inl h))
/-- All of one tree come out as one list. -/
theorem enum_perm {f : Int → Option Loc} {S S' : List (Int × Loc)} (h : Enum f S) (h' : Enum f S') : S.Perm S' := by
 have nd : ∀ {S : List (Int × Loc)}, Enum f S → S.Nodup := fun {S} h => by
   have h1 := h.nodup
   rw [List.Nodup, List.pairwise_map] at h1
   exact h1.imp fun hne e => hne (by rw [e])
 refine (List.perm_ext_iff_of_nodup (nd h) (nd h')).2 fun p => ⟨fun hp => ?_, fun hp => ?_⟩
 · exact h'.all p.1 p.2 (h.mem p hp)
 · exact h.all p.1 p.2 (h'.mem p hp)
theorem kids_same {f : Int → Option Loc} {S S' : List (Int × Loc)} (h : Enum f S) (h' : Enum f S') (test : Int × Loc → Bool) : isort klt (kidsOf test S) = isort klt (kidsOf test S') :=
 isort_eq_of_perm strict_klt (((enum_perm h h').filter test).map kidOf)
theorem kid_neq (a : KidD) (W : World) : (binOp BinOp.neq 73 (.agg #[.int .i64 a.up, .string a.name, .int .i64 a.node]) (.agg #[.int .i64 a.up, .string a.name, .int .i64 a.node])).run Tryz.prog W = .ok (.bool false) W := by
 go_simp
 try simp
theorem same_list {w : World} {l : List HProp} {v v' : Value} {ks : List KidD} (hs : Sat w (rowT fK v 73 3 ks :: rowT fK v' 73 3 ks :: l)) (hn : ks.length ≤ 1000) :
   Calls Tryz.prog 68 #[v, v'] w fun e w' => e = .returned (.bool true) ∧ Sat w' (rowT fK v 73 3 ks :: rowT fK v' 73 3 ks :: l) ∧ Kp w w' := by
 obtain ⟨ao, cap, rfl⟩ := hs.tLen
 obtain ⟨bo, bcap, rfl⟩ := (hs.pull 1).tLen
 obtain ⟨n, hn0⟩ : ∃ n, n = ks.length := ⟨_, rfl⟩
 rw [← hn0] at hs hn ⊢
 have HN := Lib.hid hn0
 have hn' : (n : Int) ≤ 1000 := by omega
 have hnn : ((n : Int) != (n : Int)) = false := by simp
 clear hn0
 go_enter Tryz.func68, Tryz.ntmps68
 go_wp2_with fail
 go_loopw [5] (fun iv wr => ∃ i : Nat, i ≤ n ∧ iv = .int .i64 i ∧ Sat wr (rowT fK (.slice ao n cap) 73 3 ks :: rowT fK (.slice bo n bcap) 73 3 ks :: l) ∧ Kp w wr) (fun iv _ => n - (intOf iv).toNat)
 case atStart => exact ⟨0, by omega, rfl, hs, Kp.refl w⟩
 case round =>
   obtain ⟨i, hin, rfl, h2, k2⟩ := hrel
   by_cases hlt : i < n
   case neg =>
     obtain rfl : n = i := by omega
     go_wp2_with fail
     go_ret
     exact ⟨rfl, h2, k2⟩
   obtain ⟨x, hx⟩ : ∃ x, ks[i]? = some x := ⟨ks[i]'(by rw [← HN.out]; exact hlt), by simp⟩
   rcases h2.tForm with ⟨hv, hp⟩ | ⟨g, off, cap', hv⟩
   · rw [hp] at hx; simp at hx
   simp only [Value.slice.injEq] at hv
   obtain ⟨rfl, -, rfl⟩ := hv
   rcases (h2.pull 1).tForm with ⟨hv, hp⟩ | ⟨g2, off2, cap2, hv⟩
   · rw [hp] at hx; simp at hx
   simp only [Value.slice.injEq] at hv
   obtain ⟨rfl, -, rfl⟩ := hv
   have x0 := h2.tCell len_fK i 0 hx rfl
   have x1 := h2.tCell len_fK i 1 hx rfl
   have x2 := h2.tCell len_fK i 2 hx rfl
   have y0 := (h2.pull 1).tCell len_fK i 0 hx rfl
   have y1 := (h2.pull 1).tCell len_fK i 1 hx rfl
   have y2 := (h2.pull 1).tCell len_fK i 2 hx rfl
   rw [Nat.add_zero] at x0 y0
   have hg := h2.rowBlock
   have hg2 := (h2.pull 1).rowBlock
   have i0' : (0 : Int) ≤ (i : Int) := by omega
   have i1' : (i : Int) < (n : Int) := by omega
   have heq := fun W => kid_neq x W
   clear hx
   go_upto_region 6 with (fail)
   go_quiet (fail)
   clear x0 x1 x2 y0 y1 y2 heq
   go_wp2_with fail
   go_roundw
   case rel => exact ⟨i + 1, by omega, by go_num, h2.drewN _, k2.drewN _⟩
   case measure => simp [intOf]; omega
end Go.Proofs.YtddglbjhhnipgaaGreatDoor

import Derived.Test.YtddglbjhhnipgaaGreatDoorIP
import Derived.Test.YtddglbjhhnipgaaGreatDoorIJ
import Derived.Test.YtddglbjhhnipgaaGreatDoorGE
import Derived.Test.YtddglbjhhnipgaaGreatDoorIK
import Derived.Test.YtddglbjhhnipgaaGreatDoorGK
import Derived.Test.YtddglbjhhnipgaaGreatDoorGP
namespace Go.Proofs.YtddglbjhhnipgaaGreatDoor
open Go Go.RowKit
set_option linter.unusedVariables false
set_option linter.unusedSimpArgs false
set_option maxRecDepth 100000
set_option maxHeartbeats 8000000
/-! ### versions, with no program in sight -/
theorem cmpI_neg (a b : Int) : cmpI a b < 0 ↔ a < b := by
 unfold cmpI
 by_cases h : a < b
 · rw [if_pos h]; exact ⟨fun _ => h, fun _ => by omega⟩
 · rw [if_neg h]
   by_cases h2 : b < a
   · rw [if_pos h2]; exact ⟨fun h3 => by omega, fun h3 => by omega⟩
   · rw [if_neg h2]; exact ⟨fun h3 => by omega, fun h3 => by omega⟩
theorem cmpI_pos (a b : Int) : 0 < cmpI a b ↔ b < a := by
 unfold cmpI
 by_cases h : a < b
 · rw [if_pos h]; exact ⟨fun _ => by omega, fun _ => by omega⟩
 · rw [if_neg h]
   by_cases h2 : b < a
   · rw [if_pos h2]; exact ⟨fun h3 => by omega, fun h3 => by omega⟩
   · rw [if_neg h2]; exact ⟨fun h3 => by omega, fun h3 => by omega⟩
theorem cmpI_ord : OrdC cmpI where
 eq a b := by
   have h1 := cmpI_neg a b
   have h2 := cmpI_pos a b
   omega
 anti a b := by rw [cmpI_pos, cmpI_neg]
 trans a b c := by
   rw [cmpI_neg, cmpI_neg, cmpI_neg]
   intro h1 h2
   omega
theorem kL_irr (a : KidD) : ¬ kL a a := fun h => by have := (klt_iff a a).2 h; rw [strict_klt.irr] at this; cases this
theorem kL_trans {a b c : KidD} (h1 : kL a b) (h2 : kL b c) : kL a c := (klt_iff a c).1 (strict_klt.trans a b c ((klt_iff a b).2 h1) ((klt_iff b c).2 h2))
theorem kord_three (a b : KidD) : (kL a b ∧ kord a b = -1) ∨ (a = b ∧ kord a b = 0) ∨ (kL b a ∧ kord a b = 1) := by
 unfold kord or3 cmpI cmpS slt sEq kL
 rcases Int.lt_trichotomy a.up b.up with h | h | h
 · exact .inl (by simp [h])
 · rw [h]
   simp only [Int.lt_irrefl, if_false, if_true, false_or, true_and]
   rcases bl_tri a.name.toList b.name.toList with h2 | h2 | h2
   · exact .inl (by simp [h2])
   · have hn : a.name = b.name := name_eq h2
     rw [hn, bl_irr]
     rcases Int.lt_trichotomy a.node b.node with h3 | h3 | h3
     · exact .inl (by simp [h3])
     · exact .inr (.inl ⟨by cases a; cases b; simp_all, by simp [h3]⟩)
     · have h4 : ¬ a.node < b.node := by omega
       exact .inr (.inr (by simp [h3, h4]))
   · have hne : a.name ≠ b.name := fun e => by rw [e, bl_irr] at h2; cases h2
     have hf : Op.bytesLess a.name.toList b.name.toList = false := by
       cases hx : Op.bytesLess a.name.toList b.name.toList with
       | false => rfl
       | true => have := bl_trans _ _ _ hx h2; rw [bl_irr] at this; cases this
     have hs : (a.name.toList == b.name.toList) = false := by
       rw [beq_eq_false_iff_ne]
       exact fun e => hne (name_eq e)
     exact .inr (.inr (by simp [h2, hf, hs]))
 · have h1 : ¬ a.up < b.up := by omega
   exact .inr (.inr (by simp [h, h1]))
theorem kord_neg (a b : KidD) : kord a b < 0 ↔ kL a b := by rw [← klt_iff]; unfold klt; simp
theorem kord_ord : OrdC kord where
 eq a b := by
   rcases kord_three a b with ⟨h, e⟩ | ⟨h, e⟩ | ⟨h, e⟩
   · exact ⟨fun h2 => by omega, fun h2 => by subst h2; exact absurd h (kL_irr a)⟩
   · exact ⟨fun _ => h, fun _ => e⟩
   · exact ⟨fun h2 => by omega, fun h2 => by subst h2; exact absurd h (kL_irr a)⟩
 anti a b := by
   rw [kord_neg]
   rcases kord_three a b with ⟨h, e⟩ | ⟨h, e⟩ | ⟨h, e⟩
   · exact ⟨fun h2 => by omega, fun h2 => absurd (kL_trans h h2) (kL_irr a)⟩
   · exact ⟨fun h2 => by omega, fun h2 => by subst h; exact absurd h2 (kL_irr a)⟩
   · exact ⟨fun _ => h, fun _ => by omega⟩
 trans a b c := by
   rw [kord_neg, kord_neg, kord_neg]
   exact kL_trans
section
variable {κ ν : Type}
theorem RepO.hds {A : List (SlotD κ ν)} : ∀ {t : HT κ ν}, RepO A t → ∀ h ∈ hds t, ∃ s, InA A h s
 | .leaf, _, h, hh => by cases hh
 | .node o k v l r hi, ⟨⟨hd, e, s, h1, _⟩, h3, h4⟩, h, hh => by
   subst e
   rcases List.mem_append.1 hh with hh | hh
   · obtain rfl := List.mem_singleton.1 hh
     exact ⟨s, h1⟩
   · rcases List.mem_append.1 hh with hh | hh
     · exact h3.hds h hh
     · exact h4.hds h hh
/-- What one says of an arena and a tree in it. -/
structure VOk (C : κ → κ → Int) (A : List (SlotD κ ν)) (F : List Int) (G : Nat) (t : HT κ ν) : Prop where
 rep : RepO A t
 hi : HiOk t
 srt : Srt C t
 wf : WfA A F G
theorem vok_nil (C : κ → κ → Int) : VOk C ([] : List (SlotD κ ν)) [] 0 .leaf := ⟨trivial, trivial, List.Pairwise.nil, wfa_nil⟩
theorem put_both {C : κ → κ → Int} {most : Int} {A A1 : List (SlotD κ ν)} {F F1 : List Int} {G : Nat} {t T : HT κ ν} {k : κ} {v : ν} {nN : List Hd} (hR : RepO A t) (hL : Laid most A F G (putT C k v t).1 A1 F1 T nN) :
   bothH ([] ++ nN) ([] ++ (putT C k v t).2) = [] := by
 unfold bothH
 rw [List.filter_eq_nil_iff]
 intro h hh
 have h1 : h ∈ nN := by simpa using hh
 simp only [List.nil_append, decide_eq_true_eq]
 intro h2
 obtain ⟨s, h3⟩ := hR.hds h ((putT_hds C k v t).mem_iff.1 (List.mem_append_right _ h2))
 exact hL.new h h1 s h3
theorem put_ok {C : κ → κ → Int} (ho : OrdC C) {most : Int} {A A1 A2 : List (SlotD κ ν)} {F F1 F2 : List Int} {G : Nat} {t T : HT κ ν} {k : κ} {v : ν} {nN : List Hd} (hV : VOk C A F G t) (hL : Laid most A F G (putT C k v t).1 A1 F1 T nN)
   (hF : FreesA most A1 F1 (G + freshT (putT C k v t).1) (bothH ([] ++ nN) ([] ++ (putT C k v t).2)) A2 F2) :
   VOk C A2 F2 (G + freshT (putT C k v t).1) T ∧ ALe A A2 ∧ A2.length = A1.length ∧ roomA most A2 F2 = roomA most A F - freshT (putT C k v t).1 ∧ (∀ x, x ∈ toL T ↔ x = (k, v) ∨ (x ∈ toL t ∧ x.1 ≠ k)) ∧ T.size ≤ t.size + 1 ∧ freshT (putT C k v t).1 ≤ t.size + 1 := by
 rw [put_both hV.rep hL] at hF
 obtain ⟨p1, p2⟩ := putT_spec ho k v hV.srt
 have hz := putT_size C k v t
 have hle : ALe A1 A2 := fun h s hh => (hF.iff h s).2 ⟨hh, by simp⟩
 refine ⟨⟨hL.rep.mono hle, hL.hiok (putT_hi hV.hi), ?_, hF.wf⟩, fun h s hh => hle h s (hL.le h s hh), hF.len, ?_, fun x => ?_, ?_, Nat.le_trans (freshT_size _) hz⟩
 · unfold Srt; rw [hL.list]; exact p1
 · have := hF.room; have := hL.room; simp at *; omega
 · rw [hL.list]; exact p2 x
 · rw [← toL_len T, hL.list, toL_len]; exact hz
end
/-- A version of just these nodes. -/
structure VerR (most : Int) (L : List KidD) (v : VerD) (AK : List SlotK) (FK : List Int) (AS : List SlotS) (FS : List Int) (GK GS : Nat) (tK : HTK) (tS : HTS) : Prop where
 k : VOk kord AK FK GK tK
 s : VOk cmpI AS FS GS tS
 ks : v.ks = tK.root.s
 kg : v.kg = tK.root.g
 ss : v.ss = tS.root.s
 sg : v.sg = tS.root.g
 kids : ∀ x, x ∈ toL tK ↔ x.2 = true ∧ x.1 ∈ L
 spots : ∀ n sp, (n, sp) ∈ toL tS ↔ ∃ y ∈ L, y.node = n ∧ sp = ⟨true, y.up, y.name⟩
 zk : tK.size ≤ L.length
 zs : tS.size ≤ L.length
 lk : (AK.length : Int) ≤ most
 ls : (AS.length : Int) ≤ most
theorem ver_nil (most n : Int) (hm : 0 ≤ most) : VerR most [] ⟨n, 0, 0, 0, 0⟩ [] [] [] [] 0 0 .leaf .leaf :=
 ⟨vok_nil _, vok_nil _, rfl, rfl, rfl, rfl, fun x => by simp [toL], fun n sp => by simp [toL], Nat.le_refl _, Nat.le_refl _, hm, hm⟩
theorem VerR.none {most : Int} {L : List KidD} {v : VerD} {AK : List SlotK} {FK : List Int} {AS : List SlotS} {FS : List Int} {GK GS : Nat} {tK : HTK} {tS : HTS} (h : VerR most L v AK FK AS FS GK GS tK tS) {n : Int} (hn : ∀ y ∈ L, y.node ≠ n) : getT cmpI n tS = none := by
 cases e : getT cmpI n tS with
 | none => rfl
 | some sp =>
   obtain ⟨y, hy, he, _⟩ := (h.spots n sp).1 ((getT_iff cmpI_ord h.s.srt).1 e)
   exact absurd he (hn y hy)
theorem VerR.put {most : Int} {L : List KidD} {v : VerD} {AK AK1 AK2 : List SlotK} {FK FK1 FK2 : List Int} {AS AS1 AS2 : List SlotS} {FS FS1 FS2 : List Int} {GK GS : Nat} {tK TK : HTK} {tS TS : HTS} {nK nS : List Hd} {k : KidD}
   (h : VerR most L v AK FK AS FS GK GS tK tS) (hn : ∀ y ∈ L, y.node ≠ k.node) (rK : (tK.size + 1 : Int) ≤ roomA most AK FK) (rS : (tS.size + 1 : Int) ≤ roomA most AS FS)
   (lK : Laid most AK FK GK (putT kord k true tK).1 AK1 FK1 TK nK) (lS : Laid most AS FS GS (putT cmpI k.node ⟨true, k.up, k.name⟩ tS).1 AS1 FS1 TS nS)
   (fK : FreesA most AK1 FK1 (GK + freshT (putT kord k true tK).1) (bothH ([] ++ nK) ([] ++ (putT kord k true tK).2)) AK2 FK2) (fS : FreesA most AS1 FS1 (GS + freshT (putT cmpI k.node ⟨true, k.up, k.name⟩ tS).1) (bothH ([] ++ nS) ([] ++ (putT cmpI k.node ⟨true, k.up, k.name⟩ tS).2)) AS2 FS2) :
   ∃ gK gS : Nat, gK ≤ tK.size + 1 ∧ gS ≤ tS.size + 1 ∧ VerR most (L ++ [k]) { v with ks := TK.root.s, kg := TK.root.g, ss := TS.root.s, sg := TS.root.g } AK2 FK2 AS2 FS2 (GK + gK) (GS + gS) TK TS ∧ ALe AK AK2 ∧ ALe AS AS2 ∧ roomA most AK2 FK2 = roomA most AK FK - gK ∧ roomA most AS2 FS2 = roomA most AS FS - gS := by
 obtain ⟨a1, a2, a3, a4, a5, a6, a7⟩ := put_ok kord_ord h.k lK fK
 obtain ⟨b1, b2, b3, b4, b5, b6, b7⟩ := put_ok cmpI_ord h.s lS fS
 refine ⟨_, _, a7, b7, ⟨a1, b1, rfl, rfl, rfl, rfl, fun x => ?_, fun n sp => ?_, ?_, ?_, ?_, ?_⟩, a2, b2, a4, b4⟩
 · rw [a5, h.kids]
   constructor
   · rintro (rfl | ⟨⟨h1, h2⟩, _⟩)
     · exact ⟨rfl, by simp⟩
     · exact ⟨h1, List.mem_append_left _ h2⟩
   · rintro ⟨h1, h2⟩
     rcases List.mem_append.1 h2 with h2 | h2
     · exact .inr ⟨⟨h1, h2⟩, fun e => hn _ h2 (by rw [e])⟩
     · obtain h2 := List.mem_singleton.1 h2
       exact .inl (by cases x; simp_all)
 · rw [b5, h.spots]
   constructor
   · rintro (e | ⟨⟨y, hy, h1, h2⟩, _⟩)
     · simp only [Prod.mk.injEq] at e
       exact ⟨k, by simp, e.1.symm, e.2⟩
     · exact ⟨y, List.mem_append_left _ hy, h1, h2⟩
   · rintro ⟨y, hy, h1, h2⟩
     rcases List.mem_append.1 hy with hy | hy
     · exact .inr ⟨⟨y, hy, h1, h2⟩, fun e => hn y hy (h1.trans e)⟩
     · obtain rfl := List.mem_singleton.1 hy
       exact .inl (by rw [h1, h2])
 · rw [List.length_append]; have := h.zk; simp; omega
 · rw [List.length_append]; have := h.zs; simp; omega
 · rw [a3]; exact lK.most (by omega) h.lk
 · rw [b3]; exact lS.most (by omega) h.ls
/-! ### one who goes down a path, with no program in sight -/
def keysT (t : HTK) : List KidD := (toL t).map Prod.fst
theorem keys_node {h : Option Hd} {k : KidD} {b : Bool} {l r : HTK} {hi : Int} : keysT (.node h k b l r hi) = keysT l ++ k :: keysT r := by simp [keysT, toL]
/-- How many nodes are looked at, for a list. -/
def thrN (a : Int) : HTK → Nat
 | .leaf => 0
 | .node _ k _ l r _ => 1 + (if a ≤ k.up then thrN a l else 0) + (if k.up ≤ a then thrN a r else 0)
def belowT (a : Int) (t : HTK) : List KidD := (keysT t).filter fun k => k.up == a
/-- A part of a version's kids. -/
structure SubT (A : List SlotK) (L : List KidD) (t : HTK) : Prop where
 rep : RepO A t
 hi : HiOk t
 srt : Srt kord t
 sub : ∀ y ∈ keysT t, y ∈ L
theorem SubT.left {A : List SlotK} {L : List KidD} {h : Option Hd} {k : KidD} {b : Bool} {l r : HTK} {hi : Int} (s : SubT A L (.node h k b l r hi)) : SubT A L l :=
 ⟨s.rep.2.1, s.hi.2.1, (srt_node.1 s.srt).1, fun y hy => s.sub y (by rw [keys_node]; exact List.mem_append_left _ hy)⟩
theorem SubT.right {A : List SlotK} {L : List KidD} {h : Option Hd} {k : KidD} {b : Bool} {l r : HTK} {hi : Int} (s : SubT A L (.node h k b l r hi)) : SubT A L r :=
 ⟨s.rep.2.2, s.hi.2.2, (srt_node.1 s.srt).2.1, fun y hy => s.sub y (by rw [keys_node]; exact List.mem_append_right _ (List.mem_cons_of_mem _ hy))⟩
theorem SubT.lt {A : List SlotK} {L : List KidD} {h : Option Hd} {k : KidD} {b : Bool} {l r : HTK} {hi : Int} (s : SubT A L (.node h k b l r hi)) : (∀ y ∈ keysT l, kL y k) ∧ (∀ y ∈ keysT r, kL k y) ∧ k ∈ L := by
 obtain ⟨_, _, h3, h4, _⟩ := srt_node.1 s.srt
 refine ⟨fun y hy => ?_, fun y hy => ?_, s.sub k (by rw [keys_node]; simp)⟩
 · obtain ⟨x, hx, rfl⟩ := List.mem_map.1 hy
   exact (kord_neg _ _).1 (h3 x hx)
 · obtain ⟨x, hx, rfl⟩ := List.mem_map.1 hy
   exact (kord_neg _ _).1 (h4 x hx)
theorem RepO.root_nil {A : List SlotK} : ∀ {t : HTK}, RepO A t → ((t.root.s = 0 ∧ t.root.g = 0) ↔ t = .leaf)
 | .leaf, _ => ⟨fun _ => rfl, fun _ => ⟨rfl, rfl⟩⟩
 | .node o k b l r hi, ⟨⟨hd, e, s, ⟨i, h1, _⟩, _⟩, _⟩ => by
   subst e
   exact ⟨fun h => by have : hd.s = 0 := h.1; omega, fun h => by cases h⟩
/-- How far a name's search is. -/
structure Seek1 (L : List KidD) (at' : Int) (x : ByteArray) (t : HTK) (met : Int) (found : Bool) : Prop where
 no : found = false → ∀ y ∈ L, y.up = at' → y.name = x → y ∈ keysT t
 yes : found = true → ((⟨at', x, met⟩ : KidD) ∈ L) ∧ (∀ y ∈ L, y.up = at' → y.name = x → met ≤ y.node ∨ y ∈ keysT t) ∧ ∀ y ∈ keysT t, kL y ⟨at', x, met⟩
theorem kL_low {at' : Int} {x : ByteArray} {y : KidD} (h1 : y.up = at') (h2 : y.name = x) (h3 : 0 ≤ y.node) : ¬ kL y ⟨at', x, 0⟩ := by
 subst h1
 subst h2
 rintro (h | ⟨_, h | ⟨_, h⟩⟩)
 · exact absurd h (Int.lt_irrefl _)
 · rw [bl_irr] at h; cases h
 · exact absurd h (by dsimp only; omega)
theorem Seek1.goRight {A : List SlotK} {L : List KidD} {at' : Int} {x : ByteArray} {h : Option Hd} {k : KidD} {b : Bool} {l r : HTK} {hi : Int} {met : Int} {found : Bool} (hp : ∀ y ∈ L, 0 ≤ y.node) (s : SubT A L (.node h k b l r hi)) (q : Seek1 L at' x (.node h k b l r hi) met found) (hk : kL k ⟨at', x, 0⟩) :
   Seek1 L at' x r met found := by
 have key : ∀ y ∈ L, y.up = at' → y.name = x → y ∈ keysT (.node h k b l r hi) → y ∈ keysT r := by
   intro y hy h1 h2 h3
   rw [keys_node] at h3
   rcases List.mem_append.1 h3 with h3 | h3
   · exact absurd (kL_trans (s.lt.1 y h3) hk) (kL_low h1 h2 (hp y hy))
   · rcases List.mem_cons.1 h3 with h3 | h3
     · subst h3; exact absurd hk (kL_low h1 h2 (hp _ hy))
     · exact h3
 refine ⟨fun e y hy h1 h2 => key y hy h1 h2 (q.no e y hy h1 h2), fun e => ?_⟩
 obtain ⟨h1, h2, h3⟩ := q.yes e
 exact ⟨h1, fun y hy g1 g2 => (h2 y hy g1 g2).imp id (key y hy g1 g2), fun y hy => h3 y (by rw [keys_node]; exact List.mem_append_right _ (List.mem_cons_of_mem _ hy))⟩
theorem Seek1.hit {A : List SlotK} {L : List KidD} {at' : Int} {x : ByteArray} {h : Option Hd} {k : KidD} {b : Bool} {l r : HTK} {hi : Int} {met : Int} {found : Bool} (s : SubT A L (.node h k b l r hi)) (q : Seek1 L at' x (.node h k b l r hi) met found) (h1 : k.up = at') (h2 : k.name = x) :
   Seek1 L at' x l k.node true := by
 have ek : (⟨at', x, k.node⟩ : KidD) = k := by subst h1; subst h2; rfl
 refine ⟨fun e => (by cases e), fun _ => ⟨by rw [ek]; exact s.lt.2.2, fun y hy g1 g2 => ?_, fun y hy => by rw [ek]; exact s.lt.1 y hy⟩⟩
 have num : ∀ z : KidD, z.up = at' → z.name = x → kL k z → k.node < z.node := by
   intro z z1 z2 hz
   rcases hz with hz | ⟨_, hz | ⟨_, hz⟩⟩
   · omega
   · rw [h2, z2, bl_irr] at hz; cases hz
   · exact hz
 have inT : y ∈ keysT (.node h k b l r hi) → k.node ≤ y.node ∨ y ∈ keysT l := by
   intro h3
   rw [keys_node] at h3
   rcases List.mem_append.1 h3 with h3 | h3
   · exact .inr h3
   · rcases List.mem_cons.1 h3 with h3 | h3
     · subst h3; exact .inl (Int.le_refl _)
     · exact .inl (Int.le_of_lt (num y g1 g2 (s.lt.2.1 y h3)))
 cases e : found with
 | false => exact inT (q.no e y hy g1 g2)
 | true =>
   obtain ⟨q1, q2, q3⟩ := q.yes e
   rcases q2 y hy g1 g2 with h3 | h3
   · have := num ⟨at', x, met⟩ rfl rfl (q3 k (by rw [keys_node]; simp))
     dsimp only at this
     exact .inl (by omega)
   · exact inT h3
theorem Seek1.goLeft {A : List SlotK} {L : List KidD} {at' : Int} {x : ByteArray} {h : Option Hd} {k : KidD} {b : Bool} {l r : HTK} {hi : Int} {met : Int} {found : Bool} (s : SubT A L (.node h k b l r hi)) (q : Seek1 L at' x (.node h k b l r hi) met found) (hk : ¬ kL k ⟨at', x, 0⟩) (hne : ¬ (k.up = at' ∧ k.name = x)) :
   Seek1 L at' x l met found := by
 have key : ∀ y ∈ L, y.up = at' → y.name = x → y ∈ keysT (.node h k b l r hi) → y ∈ keysT l := by
   intro y hy h1 h2 h3
   rw [keys_node] at h3
   rcases List.mem_append.1 h3 with h3 | h3
   · exact h3
   · rcases List.mem_cons.1 h3 with h3 | h3
     · subst h3; exact absurd ⟨h1, h2⟩ hne
     · exfalso
       rcases s.lt.2.1 y h3 with h4 | ⟨h4, h5 | ⟨h5, _⟩⟩
       · exact hk (.inl (by dsimp only; omega))
       · exact hk (.inr ⟨by dsimp only; omega, .inl (by rw [h2] at h5; exact h5)⟩)
       · exact hne ⟨by omega, by rw [h5, h2]⟩
 refine ⟨fun e y hy h1 h2 => key y hy h1 h2 (q.no e y hy h1 h2), fun e => ?_⟩
 obtain ⟨h1, h2, h3⟩ := q.yes e
 exact ⟨h1, fun y hy g1 g2 => (h2 y hy g1 g2).imp id (key y hy g1 g2), fun y hy => h3 y (by rw [keys_node]; exact List.mem_append_left _ hy)⟩
/-- The version, and the tree. -/
structure BaseV (f : Int → Option Loc) (L : List KidD) (A : List SlotK) (T : HTK) (v : VerD) : Prop where
 enum : EnumK f L
 pos : ∀ y ∈ L, 0 ≤ y.node
 sub : SubT A L T
 all : ∀ y ∈ L, y ∈ keysT T
 ks : v.ks = T.root.s
 kg : v.kg = T.root.g
/-- All is found. -/
structure FinD (L : List KidD) (T : HTK) (list : Bool) (v : VerD) (N : Nat) (a e : Int) (D : FindD) : Prop where
 next : D.next = .no
 want : D.want = Hd.nil
 er : D.e = e
 ver : D.ver = v.n
 node : D.node = a
 kids : D.kids = if list = true ∧ e = 0 then isort klt (L.filter fun k => k.up == a) else []
 loads : D.loads ≤ N * T.high + (if list = true ∧ e = 0 then (thrN a T : Int) else 0)
/-- A name is looked for. -/
structure DownD (f : Int → Option Loc) (L : List KidD) (A : List SlotK) (T : HTK) (list : Bool) (v : VerD) (N : Nat) (a e : Int) (D : FindD) (t : HTK) (x : ByteArray) (r : List ByteArray) (c : Nat) : Prop where
 next : D.next = .down
 want : D.want = t.root
 leaf : t ≠ .leaf
 sub : SubT A L t
 names : D.names = x :: r
 v : D.v = v
 list : D.list = list
 stack : D.stack = []
 kids : D.kids = []
 node : D.node = 0
 find : FindR f D.at' (x :: r) a e
 reach : Reach f D.at' c
 len : c + (r.length + 1) = N
 loads : D.loads + t.high ≤ c * T.high + T.high
 seek : Seek1 L D.at' x t D.met D.found
def sumN (a : Int) : List HTK → Nat | [] => 0 | t :: ts => thrN a t + sumN a ts
/-- A list is gone through. -/
structure ThroughD (f : Int → Option Loc) (L : List KidD) (A : List SlotK) (T : HTK) (list : Bool) (v : VerD) (N : Nat) (a e : Int) (D : FindD) (t : HTK) (ts : List HTK) : Prop where
 next : D.next = .through
 want : D.want = t.root
 leaf : t ≠ .leaf
 sub : SubT A L t
 names : D.names = []
 v : D.v = v
 list : list = true
 e0 : e = 0
 at0 : D.at' = a
 node : D.node = 0
 reach : Reach f a N
 stack : D.stack = (ts.map HT.root).reverse
 subs : ∀ t ∈ ts, SubT A L t
 kids : (D.kids ++ (belowT a t ++ ts.flatMap (belowT a))).Perm (L.filter fun k => k.up == a)
 loads : D.loads + (thrN a t + sumN a ts : Nat) ≤ N * T.high + thrN a T
inductive FinI (f : Int → Option Loc) (L : List KidD) (A : List SlotK) (T : HTK) (list : Bool) (v : VerD) (N : Nat) (a e : Int) (D : FindD) : Prop
 | done (h : FinD L T list v N a e D)
 | down (t : HTK) (x : ByteArray) (r : List ByteArray) (c : Nat) (h : DownD f L A T list v N a e D t x r c)
 | through (t : HTK) (ts : List HTK) (h : ThroughD f L A T list v N a e D t ts)
theorem high_pos {t : HTK} (h : HiOk t) (hn : t ≠ .leaf) : 1 ≤ t.high := by
 have h1 := h.pos.1
 by_cases h0 : t.high ≤ 0
 · exact absurd (h.zero h0) hn
 · omega
theorem mul_le (c N : Nat) (H : Int) (hH : 0 ≤ H) (h : c + 1 ≤ N) : (c : Int) * H + H ≤ N * H := by
 have e : (c : Int) * H + H = ((c + 1 : Nat) : Int) * H := by
   rw [Int.natCast_add, Int.add_mul]
   simp
 rw [e]
 exact Int.mul_le_mul_of_nonneg_right (by omega) hH
theorem mul_le0 (c N : Nat) (H : Int) (hH : 0 ≤ H) (h : c ≤ N) : (c : Int) * H ≤ N * H := Int.mul_le_mul_of_nonneg_right (by omega) hH
theorem findR_nine {f : Int → Option Loc} {n : Int} {x : ByteArray} {r : List ByteArray} {a e : Int} (h : FindR f n (x :: r) a e) (hn : ∀ k, f k ≠ some ⟨n, x⟩) : a = 0 ∧ e = 9 := by
 rcases h with ⟨h1, h2, _⟩ | ⟨k, h1, _⟩
 · exact ⟨h1, h2⟩
 · exact absurd h1 (hn k)
theorem enum_none {f : Int → Option Loc} {L : List KidD} (hE : EnumK f L) {n : Int} {x : ByteArray} (h : ∀ y ∈ L, y.up = n → y.name = x → False) : ∀ k, f k ≠ some ⟨n, x⟩ := fun k hk => h _ (hE.all k _ hk) rfl rfl
theorem below_leaf (a : Int) : belowT a .leaf = [] := rfl
theorem base_leaf {f : Int → Option Loc} {L : List KidD} {A : List SlotK} {v : VerD} (h : BaseV f L A .leaf v) : L = [] := by
 cases L with
 | nil => rfl
 | cons y L => have := h.all y (List.mem_cons_self ..); simp [keysT, toL] at this
theorem isort_nil : isort klt [] = [] := rfl
/-- The next name, or the list, or the end. -/
theorem seg_fin {f : Int → Option Loc} {L : List KidD} {A : List SlotK} {T : HTK} {list : Bool} {v : VerD} {N : Nat} {a e : Int} {D : FindD} {c : Nat} (hB : BaseV f L A T v) (hv : D.v = v) (hl : D.list = list) (hst : D.stack = []) (hki : D.kids = []) (hno : D.node = 0)
   (hF : FindR f D.at' D.names a e) (hR : Reach f D.at' c) (hN : c + D.names.length = N) (hlo : D.loads ≤ c * T.high) : FinI f L A T list v N a e (segF D) := by
 have hH := hB.sub.hi.pos.1
 have hroot : (D.v.ks = 0 ∧ D.v.kg = 0) ↔ T = .leaf := by rw [hv, hB.ks, hB.kg]; exact hB.sub.rep.root_nil
 have hrv : rootV D.v = T.root := by unfold rootV; rw [hv, hB.ks, hB.kg]
 unfold segF
 cases hn : D.names with
 | nil =>
   rw [hn] at hF hN
   obtain ⟨rfl, rfl⟩ := hF
   obtain rfl : c = N := by simpa using hN
   dsimp only
   rw [hl]
   cases list with
   | false =>
     rw [if_neg (by simp)]
     refine .done ⟨rfl, rfl, rfl, by rw [← hv]; rfl, rfl, ?_, ?_⟩
     · simp [endF, hki]
     · simp [endF]; exact hlo
   | true =>
     rw [if_pos rfl]
     by_cases hT : T = .leaf
     · rw [if_pos (hroot.2 hT)]
       subst hT
       have hL := base_leaf hB
       subst hL
       unfold restF
       simp only [hst, List.reverse_nil, popS, restA]
       refine .done ⟨rfl, rfl, rfl, by rw [← hv]; rfl, rfl, ?_, ?_⟩
       · simp [endF, hki]
       · simp [endF, thrN]; exact hlo
     · rw [if_neg (fun h => hT (hroot.1 h))]
       refine .through T [] ⟨rfl, hrv, hT, hB.sub, rfl, hv, rfl, rfl, rfl, hno, hR, hst, fun t ht => (by cases ht), ?_, ?_⟩
       · simp only [hki, List.flatMap_nil, List.append_nil, List.nil_append]
         refine List.Perm.filter _ ?_
         have n1 : (keysT T).Nodup := by
           have := hB.sub.srt
           unfold Srt at this
           unfold keysT
           rw [List.Nodup, List.pairwise_map]
           exact this.imp (fun {x y} (hxy : kord x.1 y.1 < 0) (e : x.1 = y.1) => kL_irr y.1 (by have := (kord_neg _ _).1 hxy; rwa [e] at this))
         have n2 : L.Nodup := nodup_of_map KidD.node hB.enum.nodup
         exact (List.perm_ext_iff_of_nodup n1 n2).2 fun y => ⟨hB.sub.sub y, hB.all y⟩
       · show D.loads + ((thrN D.at' T + 0 : Nat) : Int) ≤ _
         omega
 | cons x r =>
   rw [hn] at hF hN
   dsimp only
   by_cases hT : T = .leaf
   · rw [if_pos (hroot.2 hT)]
     subst hT
     have hL := base_leaf hB
     subst hL
     obtain ⟨rfl, rfl⟩ := findR_nine hF (enum_none hB.enum fun y hy => by cases hy)
     refine .done ⟨rfl, rfl, rfl, by rw [← hv]; rfl, hno, ?_, ?_⟩
     · simp [endF, hki]
     · have := mul_le0 c N (HT.leaf : HTK).high hH (by omega)
       simp [endF]; omega
   · rw [if_neg (fun h => hT (hroot.1 h))]
     refine .down T x r c ⟨rfl, hrv, hT, hB.sub, rfl, hv, hl, hst, hki, hno, hF, hR, hN, ?_, ⟨fun _ y hy _ _ => hB.all y hy, fun e => (by cases e)⟩⟩
     show D.loads + T.high ≤ _
     omega
theorem popS_ts {A : List SlotK} {L : List KidD} (a : Int) : ∀ {ts : List HTK}, (∀ t ∈ ts, SubT A L t) →
   (popS (ts.map HT.root) = none ∧ ts.flatMap (belowT a) = [] ∧ sumN a ts = 0) ∨ ∃ t r, popS (ts.map HT.root) = some (t.root, r.map HT.root) ∧ t ≠ .leaf ∧ SubT A L t ∧ (∀ t ∈ r, SubT A L t) ∧ ts.flatMap (belowT a) = belowT a t ++ r.flatMap (belowT a) ∧ sumN a ts = thrN a t + sumN a r
 | [], _ => .inl ⟨rfl, rfl, rfl⟩
 | t :: ts, h => by
   have ht := h t (List.mem_cons_self ..)
   have hts := fun t' h' => h t' (List.mem_cons_of_mem _ h')
   by_cases hl : t = .leaf
   · subst hl
     rcases popS_ts a hts with ⟨h1, h2, h3⟩ | ⟨t', r, h1, h2, h3, h4, h5, h6⟩
     · exact .inl ⟨by simpa [popS, HT.root, Hd.nil] using h1, by simpa [below_leaf] using h2, by simp [sumN, thrN, h3]⟩
     · exact .inr ⟨t', r, by simpa [popS, HT.root, Hd.nil] using h1, h2, h3, h4, by simpa [below_leaf] using h5, by simp [sumN, thrN, h6]⟩
   · refine .inr ⟨t, ts, ?_, hl, ht, hts, rfl, rfl⟩
     show (if _ then _ else _) = _
     rw [if_neg (fun h0 => hl (ht.rep.root_nil.1 h0))]
theorem isort_perm_eq {l l' : List KidD} (h : l.Perm l') : isort klt l = isort klt l' := isort_eq_of_perm strict_klt h
/-- What is left of a list. -/
theorem rest_fin {f : Int → Option Loc} {L : List KidD} {A : List SlotK} {T : HTK} {list : Bool} {v : VerD} {N : Nat} {a e : Int} {D : FindD} {ts : List HTK} (hnm : D.names = []) (hv : D.v = v) (hl : list = true) (he : e = 0) (ha : D.at' = a) (hno : D.node = 0) (hR : Reach f a N)
   (hst : D.stack = (ts.map HT.root).reverse) (hs : ∀ t ∈ ts, SubT A L t) (hk : (D.kids ++ ts.flatMap (belowT a)).Perm (L.filter fun k => k.up == a)) (hlo : D.loads + (sumN a ts : Nat) ≤ N * T.high + thrN a T) : FinI f L A T list v N a e (restF D) := by
 unfold restF
 rw [hst, List.reverse_reverse]
 unfold restA
 rcases popS_ts a hs with ⟨h1, h2, h3⟩ | ⟨t, r, h1, h2, h3, h4, h5, h6⟩
 · rw [h1]
   subst he
   refine .done ⟨rfl, rfl, rfl, by rw [← hv]; rfl, ha, ?_, ?_⟩
   · rw [if_pos ⟨hl, rfl⟩]
     rw [h2, List.append_nil] at hk
     show isort klt D.kids = _
     exact isort_perm_eq hk
   · rw [if_pos ⟨hl, rfl⟩]
     show D.loads ≤ _
     omega
 · rw [h1]
   refine .through t r ⟨rfl, rfl, h2, h3, hnm, hv, hl, he, ha, hno, hR, rfl, h4, ?_, ?_⟩
   · rw [← h5]; exact hk
   · rw [← h6]; exact hlo
theorem below_node (a : Int) {h : Option Hd} {k : KidD} {b : Bool} {l r : HTK} {hi : Int} : belowT a (.node h k b l r hi) = belowT a l ++ ((if k.up = a then [k] else []) ++ belowT a r) := by
 unfold belowT
 rw [keys_node, List.filter_append, List.filter_cons]
 by_cases e : k.up = a <;> simp [e]
theorem below_no {A : List SlotK} {L : List KidD} {a : Int} {t : HTK} (h : ∀ y ∈ keysT t, y.up ≠ a) : belowT a t = [] := by
 unfold belowT
 rw [List.filter_eq_nil_iff]
 intro y hy
 simpa using h y hy
noncomputable instance : DecidableEq KidD := fun _ _ => Classical.propDecidable _
/-- A node of the list. -/
theorem through_fin {f : Int → Option Loc} {L : List KidD} {A : List SlotK} {T : HTK} {list : Bool} {v : VerD} {N : Nat} {a e : Int} {D : FindD} {o : Option Hd} {k : KidD} {b : Bool} {l r : HTK} {hi : Int} {ts : List HTK} (h : ThroughD f L A T list v N a e D (.node o k b l r hi) ts) :
   FinI f L A T list v N a e (throughF k l.root r.root { D with loads := D.loads + 1 }) := by
 obtain ⟨h1, h2, h3, h4, h5, h6, h7, h8, h9, h10, h11, h12, h13, h14, h15⟩ := h
 have hlt := h4.lt
 have ts' : ∃ ts' : List HTK, (noteF k l.root r.root { D with loads := D.loads + 1 }).stack = (ts'.map HT.root).reverse ∧ (∀ t ∈ ts', SubT A L t) ∧ ((if k.up = a then [k] else []) ++ ts'.flatMap (belowT a)).Perm (belowT a (.node o k b l r hi) ++ ts.flatMap (belowT a)) ∧ sumN a ts' + 1 = thrN a (.node o k b l r hi) + sumN a ts := by
   refine ⟨(if k.up ≤ a then [r] else []) ++ ((if a ≤ k.up then [l] else []) ++ ts), ?_, fun t ht => ?_, ?_, ?_⟩
   · unfold noteF
     dsimp only
     rw [h9, h12]
     by_cases e1 : k.up ≤ a <;> by_cases e2 : a ≤ k.up <;> simp [e1, e2]
   · rcases List.mem_append.1 ht with ht | ht
     · split at ht
       · obtain rfl := List.mem_singleton.1 ht; exact h4.right
       · cases ht
     · rcases List.mem_append.1 ht with ht | ht
       · split at ht
         · obtain rfl := List.mem_singleton.1 ht; exact h4.left
         · cases ht
       · exact h13 t ht
   · have eL : ¬ a ≤ k.up → belowT a l = [] := fun e => below_no (A := A) (L := L) fun y hy e2 => by
       rcases hlt.1 y hy with g | ⟨g, _⟩ <;> omega
     have eR : ¬ k.up ≤ a → belowT a r = [] := fun e => below_no (A := A) (L := L) fun y hy e2 => by
       rcases hlt.2.1 y hy with g | ⟨g, _⟩ <;> omega
     rw [below_node]
     refine List.perm_iff_count.2 fun y => ?_
     by_cases e1 : k.up ≤ a <;> by_cases e2 : a ≤ k.up
     · simp [e1, e2, List.count_append]; omega
     · simp [e1, e2, eL e2, List.count_append]
       try omega
     · simp [e1, e2, eR e1, List.count_append]
       try omega
     · omega
   · by_cases e1 : k.up ≤ a <;> by_cases e2 : a ≤ k.up <;> simp [e1, e2, thrN, sumN] <;> omega
 obtain ⟨ts', g1, g2, g3, g4⟩ := ts'
 unfold throughF
 refine rest_fin (ts := ts') h5 h6 h7 h8 h9 h10 h11 g1 g2 ?_ ?_
 · refine List.Perm.trans ?_ h14
   have e : (noteF k l.root r.root { D with loads := D.loads + 1 }).kids = D.kids ++ (if k.up = a then [k] else []) := by
     unfold noteF
     dsimp only
     rw [h9]
     by_cases e1 : k.up = a <;> simp [e1]
   rw [e, List.append_assoc]
   exact g3.append_left _
 · show D.loads + 1 + _ ≤ _
   omega
/-- Below. -/
theorem go_fin {f : Int → Option Loc} {L : List KidD} {A : List SlotK} {T : HTK} {list : Bool} {v : VerD} {N : Nat} {a e : Int} {D : FindD} {t : HTK} {x : ByteArray} {r : List ByteArray} {c : Nat} (hB : BaseV f L A T v) (sub : SubT A L t) (names : D.names = x :: r) (hv : D.v = v) (hl : D.list = list) (hst : D.stack = []) (hki : D.kids = []) (hno : D.node = 0)
   (find : FindR f D.at' (x :: r) a e) (reach : Reach f D.at' c) (len : c + (r.length + 1) = N) (loads : D.loads + t.high ≤ c * T.high + T.high) (seek : Seek1 L D.at' x t D.met D.found) :
   FinI f L A T list v N a e (goF t.root .down D) := by
 have hH := hB.sub.hi.pos.1
 unfold goF
 by_cases hT : t = .leaf
 · rw [if_pos (sub.rep.root_nil.2 hT)]
   subst hT
   unfold bottomF
   rw [names]
   dsimp only
   cases hf : D.found with
   | false =>
     rw [if_neg (by simp)]
     obtain ⟨rfl, rfl⟩ := findR_nine find (enum_none hB.enum fun y hy g1 g2 => by have := seek.no hf y hy g1 g2; simp [keysT, toL] at this)
     refine .done ⟨rfl, rfl, rfl, by rw [← hv]; rfl, hno, ?_, ?_⟩
     · simp [endF, hki]
     · have := mul_le c N T.high hH (by omega)
       have e0 : (HT.leaf : HTK).high = 0 := rfl
       simp [endF]; omega
   | true =>
     rw [if_pos rfl]
     obtain ⟨q1, q2, _⟩ := seek.yes hf
     have hm := hB.enum.mem _ q1
     dsimp only at hm
     have hle : ∀ k', f k' = some ⟨D.at', x⟩ → D.met ≤ k' := fun k' hk' => by
       rcases q2 _ (hB.enum.all k' _ hk') rfl rfl with h | h
       · exact h
       · simp [keysT, toL] at h
     have hnx : FindR f D.met r a e := by
       rcases find with ⟨_, _, h3⟩ | ⟨k, h1, h2, h3⟩
       · exact absurd hm (h3 _)
       · have := hle k h1
         have := h2 _ hm
         obtain rfl : k = D.met := by omega
         exact h3
     have e0 : (HT.leaf : HTK).high = 0 := rfl
     refine seg_fin (c := c + 1) hB hv hl hst hki hno hnx (.succ hm reach) (by dsimp only; omega) ?_
     show D.loads ≤ _
     rw [Int.natCast_add, Int.add_mul]
     simp
     omega
 · rw [if_neg (fun h0 => hT (sub.rep.root_nil.1 h0))]
   exact .down t x r c ⟨rfl, rfl, hT, sub, names, hv, hl, hst, hki, hno, find, reach, len, loads, seek⟩
theorem down_fin {f : Int → Option Loc} {L : List KidD} {A : List SlotK} {T : HTK} {list : Bool} {v : VerD} {N : Nat} {a e : Int} {D : FindD} {o : Option Hd} {k : KidD} {b : Bool} {l r : HTK} {hi : Int} {x : ByteArray} {ns : List ByteArray} {c : Nat} (hB : BaseV f L A T v) (h : DownD f L A T list v N a e D (.node o k b l r hi) x ns c) :
   FinI f L A T list v N a e (downF k l.root r.root x { D with loads := D.loads + 1 }) := by
 obtain ⟨h1, h2, h3, h4, h5, h6, h7, h8, h9, h10, h11, h12, h13, h14, h15⟩ := h
 have hh := h4.hi.1
 have hhe : (HT.node o k b l r hi : HTK).high = 1 + max l.high r.high := hh
 rw [hhe] at h14
 unfold downF
 by_cases hk : kord k ⟨D.at', x, 0⟩ < 0
 · rw [if_pos hk]
   exact go_fin hB h4.right h5 h6 h7 h8 h9 h10 h11 h12 h13 (by dsimp only; omega) (h15.goRight hB.pos h4 ((kord_neg _ _).1 hk))
 · rw [if_neg hk]
   unfold hitF
   by_cases hq : k.up = D.at' ∧ k.name = x
   · rw [if_pos hq]
     exact go_fin hB h4.left h5 h6 h7 h8 h9 h10 h11 h12 h13 (by dsimp only; omega) (h15.hit h4 hq.1 hq.2)
   · rw [if_neg hq]
     exact go_fin hB h4.left h5 h6 h7 h8 h9 h10 h11 h12 h13 (by dsimp only; omega) (h15.goLeft h4 (fun h => hk ((kord_neg _ _).2 h)) hq)
theorem endF_loads (e : Int) (D : FindD) : (endF e D).loads = D.loads := by unfold endF; split <;> rfl
theorem restF_loads (D : FindD) : (restF D).loads = D.loads := by
 unfold restF restA
 split
 · rw [endF_loads]
 · rfl
theorem segF_loads (D : FindD) : (segF D).loads = D.loads := by
 unfold segF
 split
 · split
   · rw [endF_loads]
   · rfl
 · split
   · split
     · rw [restF_loads]
     · rfl
   · rw [endF_loads]
theorem goF_loads (h : Hd) (nx : Nx) (D : FindD) : (goF h nx D).loads = D.loads := by
 unfold goF
 split
 · unfold bottomF
   split
   · rw [restF_loads]
   · split
     · rw [segF_loads]
     · rw [endF_loads]
 · rfl
theorem downF_loads (k : KidD) (lh rh : Hd) (x : ByteArray) (D : FindD) : (downF k lh rh x D).loads = D.loads := by
 unfold downF
 split
 · rw [goF_loads]
 · rw [goF_loads]
   unfold hitF
   split <;> rfl
/-- What a finder wants lies there; behind it, it is as far as it should be. -/
theorem give_fin {f : Int → Option Loc} {L : List KidD} {A : List SlotK} {T : HTK} {list : Bool} {v : VerD} {N : Nat} {a e : Int} {D : FindD} (hB : BaseV f L A T v) (h : FinI f L A T list v N a e D) (hn : D.next ≠ .no) :
   ∃ s : SlotK, InA A D.want s ∧ (D.next = .down → ∃ x r, D.names = x :: r) ∧ FinI f L A T list v N a e (giveF s.k s.lh s.rh D) ∧ (giveF s.k s.lh s.rh D).loads = D.loads + 1 := by
 cases h with
 | done h => exact absurd h.next hn
 | down t x r c h =>
   cases t with
   | leaf => exact absurd rfl h.leaf
   | node o k b l r' hi =>
     obtain ⟨hd, e1, s, g1, g2, g3, g4, g5, g6⟩ := h.sub.rep.1
     subst e1
     refine ⟨s, by rw [h.want]; exact g1, fun _ => ⟨x, r, h.names⟩, ?_, ?_⟩
     · rw [giveF_down h.next h.names, g2, g4, g5]
       exact down_fin hB h
     · rw [giveF_down h.next h.names, downF_loads]
 | through t ts h =>
   cases t with
   | leaf => exact absurd rfl h.leaf
   | node o k b l r' hi =>
     obtain ⟨hd, e1, s, g1, g2, g3, g4, g5, g6⟩ := h.sub.rep.1
     subst e1
     refine ⟨s, by rw [h.want]; exact g1, fun e => (by rw [h.next] at e; cases e), ?_, ?_⟩
     · rw [giveF_through h.next, g2, g4, g5]
       exact through_fin h
     · rw [giveF_through h.next]
       unfold throughF
       rw [restF_loads]
       rfl
theorem thrN_size (a : Int) : ∀ t : HTK, thrN a t ≤ t.size
 | .leaf => Nat.le_refl _
 | .node _ k _ l r _ => by
   have h1 := thrN_size a l
   have h2 := thrN_size a r
   simp only [thrN, HT.size]
   split <;> split <;> omega
/-- Not many nodes are wanted. -/
theorem FinI.few {f : Int → Option Loc} {L : List KidD} {A : List SlotK} {T : HTK} {list : Bool} {v : VerD} {N : Nat} {a e : Int} {D : FindD} (hB : BaseV f L A T v) (h : FinI f L A T list v N a e D) (hn : D.next ≠ .no) (hL : L.length ≤ 8) (hT : T.size ≤ 8) : D.loads ≤ 80 := by
 have h0 := hB.sub.hi.pos
 have hm : ∀ c : Nat, c ≤ 8 → (c : Int) * T.high ≤ 64 := fun c hc => by
   have := Int.mul_le_mul (a := (c : Int)) (b := T.high) (c := 8) (d := 8) (by omega) (by omega) h0.1 (by omega)
   omega
 cases h with
 | done h => exact absurd h.next hn
 | down t x r c h =>
   have h1 := enumk_reach hB.enum _ _ h.reach
   have h2 := hm c (by omega)
   have h3 := h.loads
   have h4 := h.sub.hi.pos.1
   omega
 | through t ts h =>
   have h1 := enumk_reach hB.enum _ _ h.reach
   have h2 := hm N (by omega)
   have h3 := h.loads
   have h4 := thrN_size a T
   omega
end Go.Proofs.YtddglbjhhnipgaaGreatDoor

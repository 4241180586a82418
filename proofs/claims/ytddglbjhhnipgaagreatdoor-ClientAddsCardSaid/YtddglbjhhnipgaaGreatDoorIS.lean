import Derived.Test.YtddglbjhhnipgaaGreatDoorIO
import Derived.Test.YtddglbjhhnipgaaGreatDoorIQ
import Derived.Test.YtddglbjhhnipgaaGreatDoorIM
import Derived.Test.YtddglbjhhnipgaaGreatDoorGP
import Derived.Test.YtddglbjhhnipgaaGreatDoorGE
import Derived.Laws.BytesArg
namespace Go.Proofs.YtddglbjhhnipgaaGreatDoor
open Go Go.RowKit
set_option linter.unusedVariables false
set_option linter.unusedSimpArgs false
set_option maxRecDepth 100000
set_option maxHeartbeats 8000000
/-! ### one who is given all that it wants -/
theorem popS_len : ∀ (S : List Hd), ∀ h r, popS S = some (h, r) → r.length ≤ S.length
 | [], h, r, e => by simp [popS] at e
 | a :: S, h, r, e => by
   unfold popS at e
   split at e
   · exact Nat.le_succ_of_le (popS_len S h r e)
   · simp only [Option.some.injEq, Prod.mk.injEq] at e
     obtain ⟨_, rfl⟩ := e
     exact Nat.le_succ _
theorem endF_stack (e : Int) (D : FindD) : (endF e D).stack = D.stack := by unfold endF; split <;> rfl
theorem restF_stack (D : FindD) : (restF D).stack.length ≤ D.stack.length := by
 unfold restF
 cases hp : popS D.stack.reverse with
 | none => show (endF 0 _).stack.length ≤ _; rw [endF_stack]; exact Nat.zero_le _
 | some p =>
   obtain ⟨h, r⟩ := p
   have := popS_len _ _ _ hp
   rw [List.length_reverse] at this
   show r.reverse.length ≤ _
   rw [List.length_reverse]
   exact this
theorem segF_stack (D : FindD) : (segF D).stack.length ≤ D.stack.length := by
 unfold segF
 split
 · split
   · rw [endF_stack]; exact Nat.le_refl _
   · exact Nat.le_refl _
 · split
   · split
     · exact restF_stack _
     · exact Nat.le_refl _
   · rw [endF_stack]; exact Nat.le_refl _
theorem goF_stack (h : Hd) (nx : Nx) (D : FindD) : (goF h nx D).stack.length ≤ D.stack.length := by
 unfold goF
 split
 · unfold bottomF
   split
   · exact restF_stack _
   · split
     · exact segF_stack _
     · rw [endF_stack]; exact Nat.le_refl _
 · exact Nat.le_refl _
theorem downF_stack (k : KidD) (lh rh : Hd) (x : ByteArray) (D : FindD) : (downF k lh rh x D).stack.length ≤ D.stack.length := by
 unfold downF
 split
 · exact goF_stack _ _ _
 · refine Nat.le_trans (goF_stack _ _ _) ?_
   unfold hitF
   split <;> exact Nat.le_refl _
theorem giveF_stack (k : KidD) (lh rh : Hd) (D : FindD) : (giveF k lh rh D).stack.length ≤ D.stack.length + 2 := by
 unfold giveF
 split
 · omega
 · split
   · exact Nat.le_trans (downF_stack _ _ _ _ _) (Nat.le_add_right _ _)
   · omega
 · refine Nat.le_trans (restF_stack _) ?_
   unfold noteF
   dsimp only
   split <;> split <;> simp
/-- As far as one who goes down is, and bounds. -/
structure StepI (f : Int → Option Loc) (L : List KidD) (A : List SlotK) (T : HTK) (list : Bool) (v : VerD) (N : Nat) (a e : Int) (D : FindD) : Prop where
 fin : FinI f L A T list v N a e D
 l0 : 0 ≤ D.loads
 st : (D.stack.length : Int) ≤ 2 * D.loads
theorem FinI.kids_len {f : Int → Option Loc} {L : List KidD} {A : List SlotK} {T : HTK} {list : Bool} {v : VerD} {N : Nat} {a e : Int} {D : FindD} (h : FinI f L A T list v N a e D) : D.kids.length ≤ L.length := by
 cases h with
 | done h =>
   rw [h.kids]
   split
   · rw [(isort_perm klt _).length_eq]; exact List.length_filter_le _ _
   · simp
 | down t x r c h => rw [h.kids]; simp
 | through t ts h =>
   have h1 := h.kids.length_eq
   have h2 := List.length_filter_le (fun k : KidD => k.up == a) L
   rw [List.length_append] at h1
   omega
theorem step_fin {f : Int → Option Loc} {L : List KidD} {A : List SlotK} {T : HTK} {list : Bool} {v : VerD} {N : Nat} {a e : Int} {D : FindD} (hB : BaseV f L A T v) (hL : L.length ≤ 8) (hT : T.size ≤ 8) (h : StepI f L A T list v N a e D) (hn : D.next ≠ .no) :
   D.loads ≤ 80 ∧ D.stack.length ≤ 990 ∧ D.kids.length ≤ 11 ∧ ∃ s : SlotK, InA A D.want s ∧ (D.next = .down → ∃ x r, D.names = x :: r) ∧ StepI f L A T list v N a e (giveF s.k s.lh s.rh D) ∧ (giveF s.k s.lh s.rh D).loads = D.loads + 1 := by
 have h1 := h.fin.few hB hn hL hT
 have h2 := h.st
 have h3 := h.fin.kids_len
 obtain ⟨s, g1, g2, g3, g4⟩ := give_fin hB h.fin hn
 refine ⟨h1, by omega, by omega, s, g1, g2, ⟨g3, by rw [g4]; have := h.l0; omega, ?_⟩, g4⟩
 have g5 := giveF_stack s.k s.lh s.rh D
 rw [g4]
 omega
theorem StepI.end {f : Int → Option Loc} {L : List KidD} {A : List SlotK} {T : HTK} {list : Bool} {v : VerD} {N : Nat} {a e : Int} {D : FindD} (h : StepI f L A T list v N a e D) (hn : D.next = .no) : FinD L T list v N a e D := by
 cases h.fin with
 | done h => exact h
 | down t x r c h => have := h.next; rw [hn] at this; cases this
 | through t ts h => have := h.next; rw [hn] at this; cases this
/-- A node is given. -/
theorem find_give {w : World} {l : List HProp} {f : Nat} {D : FindD} {k : KidD} {b : Bool} {lh rh : Hd} {hi : Int} (hs : Sat w (findP f D :: l)) (hn : D.next ≠ .no) (hd : D.next = .down → ∃ x r, D.names = x :: r) (hS : D.stack.length ≤ 990) (hK : D.kids.length ≤ 11) (l0 : 0 ≤ D.loads) (l1 : D.loads ≤ 1000) :
   Calls Tryz.prog 41 #[.pointer (some ⟨f, 0, none⟩), .agg (nodC k b lh rh hi), .bool true] w fun x w' => x = .returned (.tuple #[]) ∧ Sat w' (findP f (giveF k lh rh D) :: l) ∧ Kp w w' := by
 cases hx : D.next with
 | no => exact absurd hx hn
 | down =>
   obtain ⟨x, r, hnm⟩ := hd hx
   exact find_give_down hs hS hK hx l0 l1 hnm
 | through => exact find_give_through hs hS hK hx l0 l1
theorem moreF_iff (D : FindD) : (moreF D = true ∧ D.next ≠ .no) ∨ (moreF D = false ∧ D.next = .no) := by
 unfold moreF
 cases D.next with
 | no => exact .inr ⟨rfl, rfl⟩
 | down => exact .inl ⟨rfl, fun h => by cases h⟩
 | through => exact .inl ⟨rfl, fun h => by cases h⟩
theorem load1 {w : World} {l : List HProp} {X : HProp} {c : Array Value} {t : TypeId} (h : Sat w (X :: l)) : Sat (w.alloc (.cells c t)) (own w.heap.size (.cells c t (0, 0)) :: X :: l) := h.alloc _
theorem load2 {w : World} {l : List HProp} {X : HProp} {Q : Nat} {s : SlotK} (h : Sat w (X :: own Q (.cells #[.int .i64 0, .string ⟨#[]⟩, .int .i64 0, .bool false, .int .i64 0, .int .i64 0, .int .i64 0, .int .i64 0, .int .i64 0] 75 (0, 0)) :: l)) :
   Sat (World.putCells w Q 0 [.int .i64 s.k.up, .string s.k.name, .int .i64 s.k.node, .bool s.v, .int .i64 s.lh.s, .int .i64 s.lh.g, .int .i64 s.rh.s, .int .i64 s.rh.g, .int .i64 s.hi]) (own Q (.cells (nodC s.k s.v s.lh s.rh s.hi) 75 (0, 0)) :: X :: l) :=
 Sat.putAll (c := #[.int .i64 0, .string ⟨#[]⟩, .int .i64 0, .bool false, .int .i64 0, .int .i64 0, .int .i64 0, .int .i64 0, .int .i64 0]) [.int .i64 s.k.up, .string s.k.name, .int .i64 s.k.node, .bool s.v, .int .i64 s.lh.s, .int .i64 s.lh.g, .int .i64 s.rh.s, .int .i64 s.rh.g, .int .i64 s.hi] rfl (h.pull 1)
theorem run_ok {w : World} {l : List HProp} {s mk ms fb : Nat} {most : Int} {AK : List SlotK} {FK : List Int} {AS : List SlotS} {FS : List Int} {f : Int → Option Loc} {L : List KidD} {T : HTK} {list : Bool} {v : VerD} {N : Nat} {a e : Int} {D : FindD}
   (hs : Sat w (findP fb D :: own s (.cells (stoC mk ms) 80 (0, 0)) :: mapK mk most AK FK :: l)) (hB : BaseV f L AK T v) (hL : L.length ≤ 8) (hT : T.size ≤ 8) (hI : StepI f L AK T list v N a e D) :
   Calls Tryz.prog 34 #[.pointer (some ⟨fb, 0, none⟩), .pointer (some ⟨s, 0, none⟩)] w fun x w' => x = .returned (.bool true) ∧ ∃ D', FinD L T list v N a e D' ∧ Sat w' (findP fb D' :: own s (.cells (stoC mk ms) 80 (0, 0)) :: mapK mk most AK FK :: l) ∧ Kp w w' := by
 have HB := Lib.hid hB
 have HI := Lib.hid hI
 have HLT := Lib.hid (And.intro hL hT)
 clear hB hI hL hT
 go_enter Tryz.func34, Tryz.ntmps34
 go_wp2_with fail
 go_loopw [5] (fun iv wr => ∃ (i : Nat) (D' : FindD), iv = .int .i64 i ∧ i ≤ 90 ∧ Hid (StepI f L AK T list v N a e D') ∧ Hid (D'.loads = D.loads + i) ∧ Sat wr (findP fb D' :: own s (.cells (stoC mk ms) 80 (0, 0)) :: mapK mk most AK FK :: l) ∧ Kp w wr) (fun iv _ => 100 - (intOf iv).toNat)
 case atStart => exact ⟨0, D, rfl, by omega, HI, Lib.hid (by simp), hs, Kp.refl w⟩
 case round =>
   clear hs
   obtain ⟨i, D', rfl, hi, HI', HLO, h2, k2⟩ := hrel
   have hwa := find_want h2
   have hi1 : (i : Int) ≤ 90 := by omega
   have hi0 : (0 : Int) ≤ (i : Int) := by omega
   clear h2
   rcases moreF_iff D' with ⟨hm, hne⟩ | ⟨hm, hno⟩
   · rw [hm] at hwa
     obtain ⟨b1, b2, b3, sl, g1, g2, g3, g4⟩ := step_fin HB.out HLT.out.1 HLT.out.2 HI'.out hne
     have hl0 := HI'.out.l0
     have hlo := HLO.out
     have hD0 := HI.out.l0
     have hi2 : i ≤ 80 := by omega
     have G1 := Lib.hid g1
     have G2 := Lib.hid g2
     have G3 := Lib.hid g3
     have G4 := Lib.hid (show (giveF sl.k sl.lh sl.rh D').loads = D.loads + ((i + 1 : Nat) : Int) by rw [g4, hlo]; push_cast; omega)
     have BB := Lib.hid (And.intro b2 (And.intro b3 (And.intro hl0 (show D'.loads ≤ 1000 by omega))))
     have HNE := Lib.hid hne
     clear b1 b2 b3 g1 g2 g3 g4 hl0 hlo hD0 hm hne
     go_wp2_with fail
     refine hwa.mono ?_
     rintro x w3 ⟨rfl, h3, k3⟩
     clear hwa
     have h4 := h3.alloc (.cells #[.int .i64 D'.want.s, .int .i64 D'.want.g] 56)
     have k4 := (k2.trans k3).alloc (.cells #[.int .i64 D'.want.s, .int .i64 D'.want.g] 56)
     clear h3 k2 k3
     go_upto_region 7 with (fail)
     generalize World.alloc _ _ = w4 at h4 k4 ⊢
     generalize w3.heap.size = B at h4 ⊢
     have b0 := (h4).cell 0
     have b1 := (h4).cell 1
     simp at b0 b1
     have s0 := (h4.pull 2).cell 0
     simp [stoC] at s0
     have hbl := h4.lt
     have hsl := (h4.pull 2).lt
     have hL1 := mapK_load ((h4.pull 3).drew) G1.out
     have hL2 := mapK_load ((((h4.pull 3).alloc (.cells #[.int .i64 0, .string ⟨#[]⟩, .int .i64 0, .bool false, .int .i64 0, .int .i64 0, .int .i64 0, .int .i64 0, .int .i64 0] 75)).swap).drew) G1.out
     go_cut [8, 9] from 10 to 33 (fun nv ov wx => ∃ Q : Nat, nv = .pointer (some ⟨Q, 0, none⟩) ∧ ov = .bool true ∧ Sat wx (own Q (.cells (nodC sl.k sl.v sl.lh sl.rh sl.hi) 75 (0, 0)) :: mapK mk most AK FK :: own B (.cells #[.int .i64 D'.want.s, .int .i64 D'.want.g] 56 (0, 0)) :: findP fb D' :: own s (.cells (stoC mk ms) 80 (0, 0)) :: l) ∧ Kp w wx)
     case first =>
       go_region_with ((first | (go_at_call 40; (with_reducible refine hL1.mono ?_); rintro x w5 ⟨rfl, h5, k5⟩) | (go_at_call 40; (with_reducible refine hL2.mono ?_); rintro x w5 ⟨rfl, h5, k5⟩; have q0 := (h5.pull 1).cell 0; have q1 := (h5.pull 1).cell 1; have q2 := (h5.pull 1).cell 2; have q3 := (h5.pull 1).cell 3; have q4 := (h5.pull 1).cell 4; have q5 := (h5.pull 1).cell 5; have q6 := (h5.pull 1).cell 6; have q7 := (h5.pull 1).cell 7; have q8 := (h5.pull 1).cell 8; have qf0 := (h5.pull 1).free 0; have qf1 := (h5.pull 1).free 1; have qf2 := (h5.pull 1).free 2; have qf3 := (h5.pull 1).free 3; have qf4 := (h5.pull 1).free 4; have qf5 := (h5.pull 1).free 5; have qf6 := (h5.pull 1).free 6; have qf7 := (h5.pull 1).free 7; have qf8 := (h5.pull 1).free 8; simp at q0 q1 q2 q3 q4 q5 q6 q7 q8; have qf0 := (h5.pull 1).free 0; have qf1 := (h5.pull 1).free 1; have qf2 := (h5.pull 1).free 2; have qf3 := (h5.pull 1).free 3; have qf4 := (h5.pull 1).free 4; have qf5 := (h5.pull 1).free 5; have qf6 := (h5.pull 1).free 6; have qf7 := (h5.pull 1).free 7; have qf8 := (h5.pull 1).free 8)))
       all_goals
         go_wp2_with fail
         go_meet
         case rel =>
           first
           | (have hq := qf8
              exact ⟨_, rfl, rfl, load2 h5, Kp.putCells [.int .i64 sl.k.up, .string sl.k.name, .int .i64 sl.k.node, .bool sl.v, .int .i64 sl.lh.s, .int .i64 sl.lh.g, .int .i64 sl.rh.s, .int .i64 sl.rh.g, .int .i64 sl.hi] 0 (((k4.alloc _).drew).trans k5)⟩)
           | exact ⟨_, rfl, rfl, load1 h5, (k4.drew.trans k5).alloc _⟩
     case rest =>
       clear hL1 hL2 b0 b1 s0 hbl hsl h4 k4
       obtain ⟨Q, rfl, rfl, h5, k5⟩ := hcut
       have q0 := (h5).cell 0
       have q1 := (h5).cell 1
       have q2 := (h5).cell 2
       have q3 := (h5).cell 3
       have q4 := (h5).cell 4
       have q5 := (h5).cell 5
       have q6 := (h5).cell 6
       have q7 := (h5).cell 7
       have q8 := (h5).cell 8
       simp [nodC] at q0 q1 q2 q3 q4 q5 q6 q7 q8
       have hgi := find_give (k := sl.k) (b := sl.v) (lh := sl.lh) (rh := sl.rh) (hi := sl.hi) (h5.pull 3) HNE.out G2.out BB.out.1 BB.out.2.1 BB.out.2.2.1 BB.out.2.2.2
       unfold nodC at hgi
       clear h5
       go_wp2_with fail
       refine hgi.mono ?_
       rintro x w6 ⟨rfl, h6, k6⟩
       go_wp2_with fail
       go_roundw
       case rel => exact ⟨i + 1, giveF sl.k sl.lh sl.rh D', by go_num, by omega, G3, G4, ((((h6.pull 1).tail.pull 2).tail).pull 2).swap, k5.trans k6⟩
       case measure => simp [intOf]; omega
   · rw [hm] at hwa
     have HE := Lib.hid (HI'.out.end hno)
     clear hm hno
     go_wp2_with fail
     refine hwa.mono ?_
     rintro x w3 ⟨rfl, h3, k3⟩
     go_wp2_with fail
     exact bodyPost_ret (v := .bool true) (by simp [results, Tryz.results34, go_sem]) rfl ⟨rfl, D', HE.out, h3.alloc' _, (k2.trans k3).alloc _⟩
/-! ### the document's answer -/
theorem FindR.ends {f : Int → Option Loc} : ∀ {l : List ByteArray} {n a e : Int}, FindR f n l a e → e = 0 ∨ (a = 0 ∧ e = 9)
 | [], n, a, e, h => .inl h.2
 | s :: l, n, a, e, h => by
   rcases h with ⟨h1, h2, _⟩ | ⟨k, _, _, h3⟩
   · exact .inr ⟨h1, h2⟩
   · exact h3.ends
theorem FindA.ends {f : Int → Option Loc} {s : ByteArray} {a e : Int} (h : FindA f s a e) : e = 0 ∨ (a = 0 ∧ e ≠ 0) := by
 rcases h with ⟨_, h1, h2⟩ | ⟨l, _, h⟩
 · exact .inr ⟨h1, by omega⟩
 · rcases h.ends with h | ⟨h1, h2⟩
   · exact .inl h
   · exact .inr ⟨h1, by omega⟩
/-- What is answered of a node's kids. -/
noncomputable def kidsA (L : List KidD) (list : Bool) (a e : Int) : List KidD := if list = true ∧ e = 0 then isort klt (L.filter fun k => k.up == a) else []
theorem ref_answer {w : World} {l : List HProp} {vl : Value} {L : List KidD} {f : Int → Option Loc} {num : Int} {list : Bool} {path : ByteArray} (hs : Sat w (poolP fK [(vl, L)] :: l)) (hE : EnumK f L) (hL : L.length ≤ 1000) :
   Calls Tryz.prog 37 #[vl, .int .i64 num, .bool list, .string path] w fun x w' => ∃ a e v, FindA f path a e ∧ x = .returned (.agg #[.int .i64 e, .int .i64 num, .int .i64 a, v, .slice none 0 0]) ∧ Sat w' (rowT fK v 73 3 (kidsA L list a e) :: l) ∧ Kp w w' := by
 obtain ⟨lao, lcap, rfl, _⟩ := hs.poolArg (v := vl) (ks := L) (by simp)
 have hR := hs.alloc (.cells #[.int .i64 0, .int .i64 0, .int .i64 0, .slice none 0 0, .slice none 0 0] 28)
 have kR := (Kp.refl w).alloc (.cells #[.int .i64 0, .int .i64 0, .int .i64 0, .slice none 0 0, .slice none 0 0] 28)
 have hnd : L.Nodup := nodup_nodes hE.nodup
 go_enter Tryz.func37, Tryz.ntmps37
 go_upto_region 1 with (fail)
 generalize World.alloc _ _ = w1 at hR kR ⊢
 generalize w.heap.size = R at hR ⊢
 have hT := (hR.alloc (.cells #[.slice lao L.length lcap, .slice none 0 0] 150))
 have kT := kR.alloc (.cells #[.slice lao L.length lcap, .slice none 0 0] 150)
 clear hR
 go_upto_region 2 with (fail)
 generalize World.alloc _ _ = w2 at hT kT ⊢
 generalize w1.heap.size = t at hT ⊢
 have hP : Sat w2 (refP t L [] :: own R (.cells #[.int .i64 0, .int .i64 0, .int .i64 0, .slice none 0 0, .slice none 0 0] 28 (0, 0)) :: l) := refP_I (vs := []) rfl ((((hT.tNil fV 26 1).pull 3).pull 1).pull 2)
 clear hT kR
 have hfi := ref_find_any path hP hE hL
 clear hP
 go_wp2_with fail
 refine hfi.mono ?_
 rintro x w3 ⟨a, e, hFA, rfl, h3, k3⟩
 clear hfi
 have hO := h3.alloc (.cells #[.int .i64 e, .int .i64 num, .int .i64 0, .slice none 0 0, .slice none 0 0] 28)
 have kO := (kT.trans k3).alloc (.cells #[.int .i64 e, .int .i64 num, .int .i64 0, .slice none 0 0, .slice none 0 0] 28)
 go_upto_region 4 with (fail)
 generalize World.alloc _ _ = w4 at hO kO ⊢
 generalize w3.heap.size = O at hO ⊢
 clear h3 kT k3
 have hol := hO.lt
 have hrl := (hO.pull 2).lt
 have hne := ((hO.pull 2).pull 1).ne
 have hne' := hne.symm
 rcases hFA.ends with rfl | ⟨rfl, he⟩
 · have HFA := Lib.hid hFA
   clear hFA
   cases list with
   | false =>
     have o0 := (hO).cell 0
     have o1 := (hO).cell 1
     have o3 := (hO).cell 3
     have o4 := (hO).cell 4
     simp at o0 o1 o3 o4
     have q2 := (hO).cell 2
     have qf2 := (hO).free 2
     simp at q2
     have r0 := (hO.pull 2).cell 0
     have r1 := (hO.pull 2).cell 1
     have r2 := (hO.pull 2).cell 2
     have r3 := (hO.pull 2).cell 3
     have r4 := (hO.pull 2).cell 4
     have rf0 := (hO.pull 2).free 0
     have rf1 := (hO.pull 2).free 1
     have rf2 := (hO.pull 2).free 2
     have rf3 := (hO.pull 2).free 3
     have rf4 := (hO.pull 2).free 4
     simp at r0 r1 r2 r3 r4
     have hF := (((((hO.set 2 (.int .i64 a)).pull 2).set 0 (.int .i64 0)).set 1 (.int .i64 num)).set 2 (.int .i64 a)).set 3 (.slice none 0 0) |>.set 4 (.slice none 0 0)
     have kF := (((((kO.setCell ⟨O, 2, none⟩ (.int .i64 a)).setCell ⟨R, 0, none⟩ (.int .i64 0)).setCell ⟨R, 1, none⟩ (.int .i64 num)).setCell ⟨R, 2, none⟩ (.int .i64 a)).setCell ⟨R, 3, none⟩ (.slice none 0 0)).setCell ⟨R, 4, none⟩ (.slice none 0 0)
     go_wp2_with fail
     refine bodyPost_ret (v := .agg #[.int .i64 0, .int .i64 num, .int .i64 a, .slice none 0 0, .slice none 0 0]) (by simp [results, Tryz.results37, go_sem, r0, rf0, r1, rf1, r2, rf2, r3, rf3, r4, rf4]) rfl ⟨a, 0, _, HFA.out, rfl, ?_, kF⟩
     have e0 : kidsA L false a 0 = [] := by unfold kidsA; simp
     rw [e0]
     exact hF.tail.tail.tail.tNil _ _ _
   | true =>
     have hki := fun (W : World) (l' : List HProp) (hW : Sat W (refP t L [] :: l')) => ref_kids (n := a) hW hnd hL
     have HKI := Lib.hid hki
     have hO2 := (hO.set 2 (.int .i64 a)).pull 1
     have kO2 := kO.setCell ⟨O, 2, none⟩ (.int .i64 a)
     have hk2 := hki _ _ hO2
     have q2 := (hO).cell 2
     have qf2 := (hO).free 2
     simp at q2
     clear hki HKI hO kO hO2
     go_wp2_with fail
     refine hk2.mono ?_
     rintro x w5 ⟨v, rfl, h5, k5⟩
     obtain ⟨kao, kcap, rfl⟩ := h5.tLen
     clear hk2 q2 qf2 hol hrl
     generalize hks : isort klt (L.filter fun k => k.up == a) = ks at h5 ⊢
     have o0 := (h5.pull 2).cell 0
     have o1 := (h5.pull 2).cell 1
     have o2 := (h5.pull 2).cell 2
     have o4 := (h5.pull 2).cell 4
     simp at o0 o1 o2 o4
     have q3 := (h5.pull 2).cell 3
     have qf3 := (h5.pull 2).free 3
     simp at q3
     have r0 := (h5.pull 3).cell 0
     have r1 := (h5.pull 3).cell 1
     have r2 := (h5.pull 3).cell 2
     have r3 := (h5.pull 3).cell 3
     have r4 := (h5.pull 3).cell 4
     have rf0 := (h5.pull 3).free 0
     have rf1 := (h5.pull 3).free 1
     have rf2 := (h5.pull 3).free 2
     have rf3 := (h5.pull 3).free 3
     have rf4 := (h5.pull 3).free 4
     simp at r0 r1 r2 r3 r4
     have hol := (h5.pull 2).lt
     have hrl := (h5.pull 3).lt
     have hF := ((((((h5.pull 2).set 3 (.slice kao ks.length kcap)).pull 3).set 0 (.int .i64 0)).set 1 (.int .i64 num)).set 2 (.int .i64 a)).set 3 (.slice kao ks.length kcap) |>.set 4 (.slice none 0 0)
     have kF := ((((((kO2.trans k5).setCell ⟨O, 3, none⟩ (.slice kao ks.length kcap)).setCell ⟨R, 0, none⟩ (.int .i64 0)).setCell ⟨R, 1, none⟩ (.int .i64 num)).setCell ⟨R, 2, none⟩ (.int .i64 a)).setCell ⟨R, 3, none⟩ (.slice kao ks.length kcap)).setCell ⟨R, 4, none⟩ (.slice none 0 0)
     go_wp2_with fail
     refine bodyPost_ret (v := .agg #[.int .i64 0, .int .i64 num, .int .i64 a, .slice kao ks.length kcap, .slice none 0 0]) (by simp [results, Tryz.results37, go_sem, r0, rf0, r1, rf1, r2, rf2, r3, rf3, r4, rf4]) rfl ⟨a, 0, _, HFA.out, rfl, ?_, kF⟩
     have e0 : kidsA L true a 0 = ks := by unfold kidsA; rw [if_pos ⟨rfl, rfl⟩]; exact hks
     rw [e0]
     exact (hF.tail.tail.pull 1).tail
 · have HFA := Lib.hid hFA
   clear hFA
   have he1 : (e != 0) = true := by simpa using he
   have o0 := (hO).cell 0
   have o1 := (hO).cell 1
   have o2 := (hO).cell 2
   have o3 := (hO).cell 3
   have o4 := (hO).cell 4
   simp at o0 o1 o2 o3 o4
   have r0 := (hO.pull 2).cell 0
   have r1 := (hO.pull 2).cell 1
   have r2 := (hO.pull 2).cell 2
   have r3 := (hO.pull 2).cell 3
   have r4 := (hO.pull 2).cell 4
   have rf0 := (hO.pull 2).free 0
   have rf1 := (hO.pull 2).free 1
   have rf2 := (hO.pull 2).free 2
   have rf3 := (hO.pull 2).free 3
   have rf4 := (hO.pull 2).free 4
   simp at r0 r1 r2 r3 r4
   have hF := ((((hO.pull 2).set 0 (.int .i64 e)).set 1 (.int .i64 num)).set 2 (.int .i64 0)).set 3 (.slice none 0 0) |>.set 4 (.slice none 0 0)
   have kF := ((((kO.setCell ⟨R, 0, none⟩ (.int .i64 e)).setCell ⟨R, 1, none⟩ (.int .i64 num)).setCell ⟨R, 2, none⟩ (.int .i64 0)).setCell ⟨R, 3, none⟩ (.slice none 0 0)).setCell ⟨R, 4, none⟩ (.slice none 0 0)
   go_wp2_with fail
   refine bodyPost_ret (v := .agg #[.int .i64 e, .int .i64 num, .int .i64 0, .slice none 0 0, .slice none 0 0]) (by simp [results, Tryz.results37, go_sem, r0, rf0, r1, rf1, r2, rf2, r3, rf3, r4, rf4]) rfl ⟨0, e, _, HFA.out, rfl, ?_, kF⟩
   have e0 : kidsA L list 0 e = [] := by unfold kidsA; rw [if_neg (fun h => he h.2)]
   rw [e0]
   exact hF.tail.tail.tail.tNil _ _ _
theorem ans_same {w : World} {l : List HProp} {e ver node : Int} {v1 v2 : Value} {ks : List KidD} (hs : Sat w (rowT fK v1 73 3 ks :: rowT fK v2 73 3 ks :: l)) (hn : ks.length ≤ 1000) :
   Calls Tryz.prog 27 #[.agg #[.int .i64 e, .int .i64 ver, .int .i64 node, v1, .slice none 0 0], .agg #[.int .i64 e, .int .i64 ver, .int .i64 node, v2, .slice none 0 0]] w fun x w' => x = .returned (.bool true) ∧ Sat w' (rowT fK v1 73 3 ks :: rowT fK v2 73 3 ks :: l) ∧ Kp w w' := by
 obtain ⟨ao, cap, rfl⟩ := hs.tLen
 obtain ⟨bo, bcap, rfl⟩ := (hs.pull 1).tLen
 generalize ks.length = n at hs ⊢
 have hB := hs.alloc (.cells #[.int .i64 e, .int .i64 ver, .int .i64 node, .slice ao n cap, .slice none 0 0] 28)
 have kB := (Kp.refl w).alloc (.cells #[.int .i64 e, .int .i64 ver, .int .i64 node, .slice ao n cap, .slice none 0 0] 28)
 have hO := hB.alloc (.cells #[.int .i64 e, .int .i64 ver, .int .i64 node, .slice bo n bcap, .slice none 0 0] 28)
 have kO := kB.alloc (.cells #[.int .i64 e, .int .i64 ver, .int .i64 node, .slice bo n bcap, .slice none 0 0] 28)
 simp only [World.size_alloc] at hO
 clear hs hB kB
 go_enter Tryz.func27, Tryz.ntmps27
 go_upto_region 1 with (fail)
 generalize World.alloc _ _ = w1 at hO kO ⊢
 generalize w.heap.size + 1 = O at hO ⊢
 generalize w.heap.size = B at hO ⊢
 have o3 := (hO).cell 3
 simp at o3
 have b3 := (hO.pull 1).cell 3
 simp at b3
 have hsa := same_list ((hO.pull 3).pull 3) hn
 clear hO
 go_wp2_with fail
 refine hsa.mono ?_
 rintro x w2 ⟨rfl, h2, k2⟩
 clear hsa o3 b3
 have o0 := (h2.pull 2).cell 0
 have o1 := (h2.pull 2).cell 1
 have o2 := (h2.pull 2).cell 2
 have o3 := (h2.pull 2).cell 3
 have o4 := (h2.pull 2).cell 4
 simp at o0 o1 o2 o3 o4
 have b0 := (h2.pull 3).cell 0
 have b1 := (h2.pull 3).cell 1
 have b2 := (h2.pull 3).cell 2
 have b3 := (h2.pull 3).cell 3
 have b4 := (h2.pull 3).cell 4
 simp at b0 b1 b2 b3 b4
 have hcv := fun (w : World) => run_convert_bytes_nil (P := Tryz.prog) w 22 5 Tryz.underlying22 Tryz.underlying5 0 0 9 Tryz.underlying9
 go_wp2_with fail
 go_ret
 exact ⟨rfl, ((h2.pull 2).tail.pull 2).tail, kO.trans k2⟩
/-! ### a finder of a version -/
theorem base_of {most : Int} {L : List KidD} {v : VerD} {AK : List SlotK} {FK : List Int} {AS : List SlotS} {FS : List Int} {GK GS : Nat} {tK : HTK} {tS : HTS} {f : Int → Option Loc} (h : VerR most L v AK FK AS FS GK GS tK tS) (hE : EnumK f L) (hp : ∀ y ∈ L, 0 ≤ y.node) : BaseV f L AK tK v := by
 refine ⟨hE, hp, ⟨h.k.rep, h.k.hi, h.k.srt, fun y hy => ?_⟩, fun y hy => ?_, h.ks, h.kg⟩
 · obtain ⟨x, hx, rfl⟩ := List.mem_map.1 hy
   exact ((h.kids x).1 hx).2
 · exact List.mem_map.2 ⟨(y, true), (h.kids (y, true)).2 ⟨rfl, hy⟩, rfl⟩
theorem enumk_perm {f : Int → Option Loc} {L L' : List KidD} (h : EnumK f L) (h' : EnumK f L') : L.Perm L' :=
 (List.perm_ext_iff_of_nodup (nodup_of_map KidD.node h.nodup) (nodup_of_map KidD.node h'.nodup)).2 fun y => ⟨fun hy => by
   have := h'.all y.node _ (h.mem y hy); exact this, fun hy => by
   have := h.all y.node _ (h'.mem y hy); exact this⟩
theorem kidsA_same {f : Int → Option Loc} {L L' : List KidD} (h : EnumK f L) (h' : EnumK f L') (list : Bool) (a e : Int) : kidsA L list a e = kidsA L' list a e := by
 unfold kidsA
 split
 · exact isort_perm_eq ((enumk_perm h h').filter _)
 · rfl
theorem newF_loads (v : VerD) (list : Bool) (nms : List ByteArray) : (newF v list nms).loads = 0 := rfl
theorem newFD_loads (v : VerD) (list : Bool) (path : ByteArray) : (newFD v list path).loads = 0 := by
 unfold newFD
 split
 · rw [endF_loads]; rfl
 · rw [segF_loads]; rfl
theorem newFD_stack (v : VerD) (list : Bool) (path : ByteArray) : (newFD v list path).stack.length ≤ 0 := by
 unfold newFD
 split
 · rw [endF_stack]; exact Nat.le_refl _
 · exact segF_stack _
theorem step_new {f : Int → Option Loc} {L : List KidD} {A : List SlotK} {T : HTK} {v : VerD} {path : ByteArray} {a e : Int} (list : Bool) (hB : BaseV f L A T v) (hA : FindA f path a e) (h0 : f 0 = none) :
   ∃ N, StepI f L A T list v N a e (newFD v list path) ∧ ((pathL path = none ∧ e = 4 ∧ N = 0) ∨ ∃ nms, pathL path = some nms ∧ N = nms.length ∧ (e = 0 ∨ e = 9)) := by
 have hs : ((newFD v list path).stack.length : Int) ≤ 2 * (newFD v list path).loads := by
   have := newFD_stack v list path
   rw [newFD_loads]
   omega
 have hl : 0 ≤ (newFD v list path).loads := by rw [newFD_loads]; exact Int.le_refl _
 rcases hA with ⟨hp, rfl, rfl⟩ | ⟨nms, hp, hF⟩
 · refine ⟨0, ⟨.done ?_, hl, hs⟩, .inl ⟨hp, rfl, rfl⟩⟩
   unfold newFD
   rw [hp]
   refine ⟨rfl, rfl, rfl, rfl, rfl, ?_, ?_⟩
   · rw [if_neg (by simp)]; rfl
   · rw [endF_loads, newF_loads, if_neg (by simp)]; simp
 · refine ⟨nms.length, ⟨?_, hl, hs⟩, .inr ⟨nms, hp, rfl, ?_⟩⟩
   · unfold newFD
     rw [hp]
     have hH := hB.sub.hi.pos.1
     exact seg_fin (c := 0) hB rfl rfl rfl rfl rfl hF (.zero h0) (by simp [newF]) (by rw [newF_loads]; simp)
   · rcases hF.ends with h | h
     · exact .inl h
     · exact .inr h.2
/-- What all answer, behind the end. -/
theorem FinD.ans {L : List KidD} {T : HTK} {list : Bool} {v : VerD} {N : Nat} {a e : Int} {D : FindD} (h : FinD L T list v N a e D) : D.kids = kidsA L list a e := h.kids
/-! ### the chapter's example -/
def letA : ByteArray := ⟨#[97]⟩
def oneF : Int → Option Loc := upd (fun _ => none) 256 (some ⟨0, letA⟩)
def oneK : KidD := ⟨0, letA, 256⟩
theorem one_enum : EnumK oneF [oneK] where
 mem k hk := by obtain rfl := List.mem_singleton.1 hk; simp [oneF, oneK, upd]
 nodup := by simp
 all n l hl := by
   unfold oneF upd at hl
   split at hl
   · rename_i h; cases hl; subst h; simp [oneK]
   · cases hl
theorem one_path : pathL ⟨#[47, 97]⟩ = some [letA] := by
 have h : (⟨#[47, 97]⟩ : ByteArray).data.toList = [47, 97] := rfl
 unfold pathL
 rw [if_neg (by decide)]
 rw [h]
 dsimp only
 rw [if_neg (by decide), if_neg (by decide)]
 have hs : splitS [97] = [[97]] := by rw [splitS_none (by decide)]
 rw [hs]
 decide +kernel
theorem one_find : FindA oneF ⟨#[47, 97]⟩ 256 0 := by
 refine .inr ⟨[letA], one_path, .inr ⟨256, by simp [oneF, upd], fun k' hk' => ?_, rfl, rfl⟩⟩
 unfold oneF upd at hk'
 split at hk'
 · rename_i h; omega
 · cases hk'
theorem one_end {L : List KidD} {A : List SlotK} {T : HTK} {v : VerD} {D : FindD} (h : StepI oneF L A T false v 1 256 0 D) (h1 : D.loads = 1) (hT : T.high ≤ 1) : D.next = .no := by
 cases h.fin with
 | done h => exact h.next
 | down t x r c h =>
   have h2 := h.loads
   have h3 := high_pos h.sub.hi h.leaf
   have h4 := h.len
   obtain rfl : c = 0 := by omega
   rw [h1] at h2
   simp at h2
   omega
 | through t ts h => have := h.list; cases this
theorem awake13 {W w : World} {l : List HProp} (hT : Lib.Utf8Tabs (validS_ren.g 3) (validS_ren.g 4) W) (hs : Sat w (oldH W :: l)) :
   Calls Tryz.prog 31 #[] w fun e w' => e = .returned (.bool true) ∧ Sat w' (oldH W :: l) ∧ Kp w w' := by
 have HT := Lib.hid hT
 have hnw := view_new (most := 20) hs (by decide) (by decide)
 clear hT hs
 go_enter Tryz.func31, Tryz.ntmps31
 go_wp2_with fail
 refine hnw.mono ?_
 rintro e w1 ⟨s, rfl, h0, k1⟩
 clear hnw
 obtain ⟨mk, ms, h0⟩ := storeP_E h0
 have h1 : Sat w1 (own s (.cells (stoC mk ms) 80 (0, 0)) :: mapK mk 20 [] [] :: mapS ms 20 [] [] :: oldH W :: l) := h0
 clear h0
 have hV := ver_nil 20 3 (by decide)
 have hse := store_set_new (n := 256) (nu := 0) (nm := ⟨#[97]⟩) h1 (hV.none (by simp)) hV.ks hV.kg hV.ss hV.sg hV.k.rep hV.s.rep hV.k.hi hV.s.hi hV.k.wf hV.s.wf (by decide) (by decide) (by decide) (by decide) hV.lk hV.ls (by decide) (by decide) (by decide) (by decide)
 unfold aggV at hse
 dsimp only at hse
 clear h1
 go_wp2_with fail
 refine hse.mono ?_
 rintro e w2 hQ
 clear hse
 unfold SetQ at hQ
 obtain ⟨D, q1, q2, q3, q4, AK1, FK1, TK, nK, AS1, FS1, TS, nS, AK2, FK2, AS2, FS2, rfl, rfl, LK, LS, FK', FS', h3, k3⟩ := hQ
 obtain ⟨gK, gS, g1, g2, g3, -, -, g4, g5⟩ := hV.put (k := ⟨0, ⟨#[97]⟩, 256⟩) (by simp) (by decide) (by decide) LK LS FK' FS'
 clear LK LS FK' FS' g1 g2 g4 g5
 dsimp only at g3
 obtain ⟨y1, z1, rfl⟩ := h3.tLen
 obtain ⟨y2, z2, rfl⟩ := (h3.pull 1).tLen
 obtain ⟨y3, z3, rfl⟩ := (h3.pull 2).tLen
 obtain ⟨y4, z4, rfl⟩ := (h3.pull 3).tLen
 have h33 := h3.tail.tail.tail.tail
 clear h3
 have hB := base_of g3 (show EnumK oneF ([] ++ [⟨0, ⟨#[97]⟩, 256⟩]) from one_enum) (fun y hy => by simp at hy; subst hy; decide)
 have hz := g3.zk
 have hzh := g3.k.hi.pos.2
 have hks := g3.ks
 have hkg := g3.kg
 dsimp only at hB hks hkg
 obtain ⟨N, hI, hN⟩ := step_new false hB one_find (by simp [oneF, upd])
 have hN1 : N = 1 := by
   rcases hN with ⟨hp, _⟩ | ⟨nms, hp, rfl, _⟩
   · rw [one_path] at hp; cases hp
   · rw [one_path] at hp; cases hp; rfl
 subst hN1
 have hn3 : ({ n := 3, ks := TK.root.s, kg := TK.root.g, ss := TS.root.s, sg := TS.root.g } : VerD).n = 3 := rfl
 generalize hv2 : ({ n := 3, ks := TK.root.s, kg := TK.root.g, ss := TS.root.s, sg := TS.root.g } : VerD) = v2 at *
 have hTn : TK ≠ .leaf := fun e => by
   have := hB.all ⟨0, ⟨#[97]⟩, 256⟩ (by simp)
   rw [e] at this
   simp [keysT, toL] at this
 have hroot : ¬ (v2.ks = 0 ∧ v2.kg = 0) := by rw [hB.ks, hB.kg]; exact fun h => hTn (hB.sub.rep.root_nil.1 h)
 have hD0 : newFD v2 false ⟨#[47, 97]⟩ = { newF v2 false [letA] with met := 0, found := false, want := rootV v2, next := .down } := by
   unfold newFD
   rw [one_path]
   dsimp only
   rw [segF_down (x := letA) (r := []) rfl]
   unfold goF rootV newF
   dsimp only
   rw [if_neg hroot]
 have hT1 : TK.size ≤ 1 := by simpa using hz
 have hH1 : TK.high ≤ 1 := by omega
 have hks1 : ([] ++ [(⟨0, ⟨#[97]⟩, 256⟩ : KidD)]).length ≤ 8 := by simp
 generalize hDD : newFD v2 false ⟨#[47, 97]⟩ = D0 at *
 have hw1 : D0.want = ⟨v2.ks, v2.kg⟩ := by rw [hD0]; rfl
 have hw2 : D0.next = .down := by rw [hD0]
 have hw3 : D0.loads = 0 := by rw [hD0]; rfl
 obtain ⟨b1, b2, b3, sl, s1, s2, s3, s4⟩ := step_fin hB hks1 (by omega) hI (by rw [hw2]; simp)
 have hend := one_end s3 (by rw [s4, hw3]; rfl) hH1
 have hfin := s3.end hend
 have hl1 : (giveF sl.k sl.lh sl.rh D0).loads = 1 := by rw [s4, hw3]; rfl
 have HFIN := Lib.hid (And.intro hfin (And.intro hl1 hn3))
 have HG := Lib.hid (And.intro s1 (And.intro s2 (And.intro b2 b3)))
 have HW := Lib.hid (And.intro hw1 (And.intro hw2 hw3))
 have HDD := Lib.hid hDD
 clear hend hfin hl1 s1 s2 s3 s4 b1 b2 b3 hw1 hw2 hw3 hD0 hroot hTn hB hI hT1 hH1 hks1 hz hzh hks hkg hV g3 hn3 hN hv2 hDD
 generalize (endD _).km.length = m1
 generalize (endD _).kg.length = m2
 generalize (endD _).sm.length = m3
 generalize (endD _).sg.length = m4
 have hX := (h33.alloc (.cells #[.int .i64 v2.n, .int .i64 v2.ks, .int .i64 v2.kg, .int .i64 v2.ss, .int .i64 v2.sg] 58)).alloc (.cells #[.slice y1 m1 z1, .slice y2 m2 z2, .slice y3 m3 z3, .slice y4 m4 z4] 94)
 have kX := ((k1.trans k3).alloc (.cells #[.int .i64 v2.n, .int .i64 v2.ks, .int .i64 v2.kg, .int .i64 v2.ss, .int .i64 v2.sg] 58)).alloc (.cells #[.slice y1 m1 z1, .slice y2 m2 z2, .slice y3 m3 z3, .slice y4 m4 z4] 94)
 simp only [World.size_alloc] at hX
 clear h33 k1 k3
 simp only [aggV]
 go_upto_region 5 with (fail)
 generalize World.alloc _ _ = w3 at hX kX ⊢
 generalize w2.heap.size + 1 = T at hX ⊢
 generalize w2.heap.size = V at hX ⊢
 have hX2 := hX.tail
 clear hX
 have c0 := (hX2).cell 0
 have c1 := (hX2).cell 1
 have c2 := (hX2).cell 2
 have c3 := (hX2).cell 3
 have c4 := (hX2).cell 4
 simp at c0 c1 c2 c3 c4
 have hnw := find_new (v := v2) (list := false) (path := ⟨#[47, 97]⟩) HT.out (hX2.pull 4)
 rw [HDD.out] at hnw
 unfold aggV at hnw
 clear hX2
 go_wp2_with fail
 refine hnw.mono ?_
 rintro e w4 ⟨fb, rfl, h4, k4⟩
 clear hnw
 have k4 := kX.trans k4
 clear kX c0 c1 c2 c3 c4
 have hwa := find_want h4
 rw [show moreF D0 = true by unfold moreF; rw [HW.out.2.1], HW.out.1] at hwa
 clear h4
 go_wp2_with fail
 refine hwa.mono ?_
 rintro e w5 ⟨rfl, h5, k5⟩
 clear hwa
 have k5 := k4.trans k5
 clear k4
 have h6 := h5.alloc (.cells #[.int .i64 v2.ks, .int .i64 v2.kg] 56)
 have k6 := k5.alloc (.cells #[.int .i64 v2.ks, .int .i64 v2.kg] 56)
 clear h5 k5
 go_upto_region 9 with (fail)
 generalize World.alloc _ _ = w6 at h6 k6 ⊢
 generalize w5.heap.size = B at h6 ⊢
 have b0 := (h6).cell 0
 have b1 := (h6).cell 1
 simp at b0 b1
 have s0 := (h6.pull 4).cell 0
 simp [stoC] at s0
 have hbl := h6.lt
 have hsl := (h6.pull 4).lt
 have hin := HG.out.1
 rw [HW.out.1] at hin
 have hL1 := mapK_load ((h6.pull 5).drew) hin
 have hL2 := mapK_load ((((h6.pull 5).alloc (.cells #[.int .i64 0, .string ⟨#[]⟩, .int .i64 0, .bool false, .int .i64 0, .int .i64 0, .int .i64 0, .int .i64 0, .int .i64 0] 75)).swap).drew) hin
 clear hin
 go_cut [8, 9] from 34 (fun nv ov wx => ∃ Q : Nat, nv = .pointer (some ⟨Q, 0, none⟩) ∧ ov = .bool true ∧ Sat wx (own Q (.cells (nodC sl.k sl.v sl.lh sl.rh sl.hi) 75 (0, 0)) :: mapK mk 20 AK2 FK2 :: own B (.cells #[.int .i64 v2.ks, .int .i64 v2.kg] 56 (0, 0)) :: findP fb D0 :: oldH W :: own V (.cells #[.int .i64 v2.n, .int .i64 v2.ks, .int .i64 v2.kg, .int .i64 v2.ss, .int .i64 v2.sg] 58 (0, 0)) :: own s (.cells (stoC mk ms) 80 (0, 0)) :: mapS ms 20 AS2 FS2 :: l) ∧ Kp w wx)
 case first =>
   go_region_with ((first | (go_at_call 40; (with_reducible refine hL1.mono ?_); rintro x w7 ⟨rfl, h7, k7⟩) | (go_at_call 40; (with_reducible refine hL2.mono ?_); rintro x w7 ⟨rfl, h7, k7⟩; have q0 := (h7.pull 1).cell 0; have q1 := (h7.pull 1).cell 1; have q2 := (h7.pull 1).cell 2; have q3 := (h7.pull 1).cell 3; have q4 := (h7.pull 1).cell 4; have q5 := (h7.pull 1).cell 5; have q6 := (h7.pull 1).cell 6; have q7 := (h7.pull 1).cell 7; have q8 := (h7.pull 1).cell 8; have qf0 := (h7.pull 1).free 0; have qf1 := (h7.pull 1).free 1; have qf2 := (h7.pull 1).free 2; have qf3 := (h7.pull 1).free 3; have qf4 := (h7.pull 1).free 4; have qf5 := (h7.pull 1).free 5; have qf6 := (h7.pull 1).free 6; have qf7 := (h7.pull 1).free 7; have qf8 := (h7.pull 1).free 8; simp at q0 q1 q2 q3 q4 q5 q6 q7 q8; have qf0 := (h7.pull 1).free 0; have qf1 := (h7.pull 1).free 1; have qf2 := (h7.pull 1).free 2; have qf3 := (h7.pull 1).free 3; have qf4 := (h7.pull 1).free 4; have qf5 := (h7.pull 1).free 5; have qf6 := (h7.pull 1).free 6; have qf7 := (h7.pull 1).free 7; have qf8 := (h7.pull 1).free 8)))
   all_goals
     go_wp2_with fail
     go_meet
     case rel =>
       first
       | (have hq := qf8
          exact ⟨_, rfl, rfl, load2 h7, Kp.putCells [.int .i64 sl.k.up, .string sl.k.name, .int .i64 sl.k.node, .bool sl.v, .int .i64 sl.lh.s, .int .i64 sl.lh.g, .int .i64 sl.rh.s, .int .i64 sl.rh.g, .int .i64 sl.hi] 0 (((k6.alloc _).drew).trans k7)⟩)
       | exact ⟨_, rfl, rfl, load1 h7, (k6.drew.trans k7).alloc _⟩
 case rest =>
   clear hL1 hL2 b0 b1 s0 hbl hsl h6 k6
   obtain ⟨Q, rfl, rfl, h7, k7⟩ := hcut
   have q0 := (h7).cell 0
   have q1 := (h7).cell 1
   have q2 := (h7).cell 2
   have q3 := (h7).cell 3
   have q4 := (h7).cell 4
   have q5 := (h7).cell 5
   have q6 := (h7).cell 6
   have q7 := (h7).cell 7
   have q8 := (h7).cell 8
   simp [nodC] at q0 q1 q2 q3 q4 q5 q6 q7 q8
   have hgi := find_give (k := sl.k) (b := sl.v) (lh := sl.lh) (rh := sl.rh) (hi := sl.hi) (h7.pull 3) (by rw [HW.out.2.1]; simp) HG.out.2.1 HG.out.2.2.1 HG.out.2.2.2 (by rw [HW.out.2.2]; decide) (by rw [HW.out.2.2]; decide)
   unfold nodC at hgi
   clear h7
   generalize giveF sl.k sl.lh sl.rh D0 = D1 at hgi HFIN
   go_wp2_with fail
   refine hgi.mono ?_
   rintro x w8 ⟨rfl, h8, k8⟩
   clear hgi
   have k8 := k7.trans k8
   clear k7 q0 q1 q2 q3 q4 q5 q6 q7 q8
   have hwa := find_want_no h8 HFIN.out.1.next
   rw [HFIN.out.1.want] at hwa
   simp only [Hd.nil] at hwa
   clear h8
   go_wp2_with fail
   refine hwa.mono ?_
   rintro x w9 ⟨rfl, h9, k9⟩
   clear hwa
   have k9 := k8.trans k9
   have h10 := h9.alloc (.cells #[.int .i64 0, .int .i64 0] 56)
   have k10 := k9.alloc (.cells #[.int .i64 0, .int .i64 0] 56)
   clear k8 h9 k9
   have han := find_answer (h10.pull 1) HFIN.out.1.next (by rw [HFIN.out.1.kids, if_neg (by simp)]; simp)
   rw [HFIN.out.1.er, HFIN.out.1.ver, HFIN.out.1.node, HFIN.out.2.2] at han
   clear h10
   go_wp2_with fail
   refine han.mono ?_
   rintro x w10 ⟨ko, kn, kc, rfl, h11, k11⟩
   clear han
   have k11 := k10.trans k11
   have h12 := h11.alloc (.cells #[.int .i64 0, .int .i64 3, .int .i64 256, .slice ko kn kc, .slice none 0 0] 28)
   have k12 := k11.alloc (.cells #[.int .i64 0, .int .i64 3, .int .i64 256, .slice ko kn kc, .slice none 0 0] 28)
   clear k10 h11 k11
   go_upto_region 13 with (fail)
   generalize World.alloc _ _ = w11 at h12 k12 ⊢
   generalize w10.heap.size = A at h12 ⊢
   have a0 := (h12).cell 0
   have a1 := (h12).cell 1
   have a2 := (h12).cell 2
   simp at a0 a1 a2
   have b0 := (h12.pull 6).cell 0
   have b1 := (h12.pull 6).cell 1
   simp at b0 b1
   have c1 := (h12.pull 8).cell 1
   have c2 := (h12.pull 8).cell 2
   simp at c1 c2
   have hlo := find_loads (h12.pull 2)
   rw [HFIN.out.2.1] at hlo
   clear h12
   go_wp2_with fail
   refine hlo.mono ?_
   rintro x w12 ⟨rfl, h13, k13⟩
   clear hlo
   go_wp2_with fail
   go_ret
   exact ⟨rfl, (h13.pull 7).swap.tail.swap.tail.swap.tail.swap.tail.swap.tail.swap.tail.swap.tail.swap.tail.swap.tail.swap.tail, k12.trans k13⟩
end Go.Proofs.YtddglbjhhnipgaaGreatDoor

import Derived.Test.YtddglbjhhnipgaaGreatDoorIQ
namespace Go.Proofs.YtddglbjhhnipgaaGreatDoor
open Go Go.RowKit
set_option linter.unusedVariables false
set_option linter.unusedSimpArgs false
set_option maxRecDepth 100000
set_option maxHeartbeats 8000000
/-! ### edits one behind the other, and what is freed at their end -/
section
variable {κ ν : Type}
theorem ALe.refl (A : List (SlotD κ ν)) : ALe A A := fun _ _ h => h
theorem ALe.trans {A B D : List (SlotD κ ν)} (h : ALe A B) (k : ALe B D) : ALe A D := fun a s x => k a s (h a s x)
theorem repO_keys {A : List (SlotD κ ν)} : ∀ {t : HT κ ν}, RepO A t → ∀ h ∈ hds t, ∃ s v, InA A h s ∧ (s.k, v) ∈ toL t
 | .leaf, _, h, hh => by cases hh
 | .node o k v l r hi, ⟨⟨hd, e, s, h1, h2, _⟩, h3, h4⟩, h, hh => by
   subst e
   rcases List.mem_append.1 hh with hh | hh
   · obtain rfl := List.mem_singleton.1 hh
     exact ⟨s, v, h1, by rw [h2]; simp [toL]⟩
   · rcases List.mem_append.1 hh with hh | hh
     · obtain ⟨s', v', a, b⟩ := repO_keys h3 h hh
       exact ⟨s', v', a, List.mem_append_left _ b⟩
     · obtain ⟨s', v', a, b⟩ := repO_keys h4 h hh
       exact ⟨s', v', a, List.mem_append_right _ (List.mem_cons_of_mem _ b)⟩
/-- A tree's nodes are apart, since its keys are. -/
theorem repO_nodup {C : κ → κ → Int} (ho : OrdC C) {A : List (SlotD κ ν)} : ∀ {t : HT κ ν}, RepO A t → Srt C t → (hds t).Nodup
 | .leaf, _, _ => List.nodup_nil
 | .node o k v l r hi, ⟨⟨hd, e, s, h1, h2, _⟩, h3, h4⟩, hs => by
   subst e
   obtain ⟨sl, sr, bl, br, blr⟩ := srt_node.1 hs
   have irr : ∀ x : κ, ¬ C x x < 0 := fun x h => by have := (ho.eq x x).2 rfl; omega
   refine List.nodup_append.2 ⟨by simp [lv], List.nodup_append.2 ⟨repO_nodup ho h3 sl, repO_nodup ho h4 sr, ?_⟩, ?_⟩
   · intro a ha b hb e
     subst e
     obtain ⟨s1, v1, a1, b1⟩ := repO_keys h3 a ha
     obtain ⟨s2, v2, a2, b2⟩ := repO_keys h4 a hb
     obtain rfl := a1.uniq a2
     exact irr s1.k (blr (s1.k, v1) b1 (s1.k, v2) b2)
   · intro a ha b hb e
     subst e
     obtain rfl := List.mem_singleton.1 ha
     rcases List.mem_append.1 hb with hb | hb
     · obtain ⟨s1, v1, a1, b1⟩ := repO_keys h3 a hb
       obtain rfl := a1.uniq h1
       have := bl _ b1
       rw [h2] at this
       exact irr _ this
     · obtain ⟨s1, v1, a1, b1⟩ := repO_keys h4 a hb
       obtain rfl := a1.uniq h1
       have := br _ b1
       rw [h2] at this
       exact irr _ this
theorem both_len : ∀ a b : List Hd, (bothH a b).length + (outH a b).length = a.length := by
 intro a b
 unfold bothH outH
 induction a with
 | nil => rfl
 | cons x a ih =>
   simp only [decide_not] at ih ⊢
   by_cases h : x ∈ b <;> simp [h] <;> omega
/-- What edits come to: the tree that is there now, those that were made, and those that are gone. -/
structure WkR (most : Int) (A0 : List (SlotD κ ν)) (F0 : List Int) (G0 : Nat) (t0 : HT κ ν) (A : List (SlotD κ ν)) (F : List Int) (G : Nat) (t : HT κ ν) (km kg : List Hd) : Prop where
 le : ALe A0 A
 rep : RepO A t
 hi : HiOk t
 wf : WfA A F G
 new : ∀ h ∈ km, ∀ s, ¬ InA A0 h s
 got : ∀ h ∈ km, ∃ s, InA A h s
 nodup : km.Nodup
 only : ∀ h s, InA A h s → InA A0 h s ∨ h ∈ km
 room : roomA most A F = roomA most A0 F0 - km.length
 per : (hds t ++ kg).Perm (hds t0 ++ km)
 gle : G0 ≤ G
theorem WkR.init {C : κ → κ → Int} {most : Int} {A : List (SlotD κ ν)} {F : List Int} {G : Nat} {t : HT κ ν} (h : VOk C A F G t) : WkR most A F G t A F G t [] [] :=
 ⟨ALe.refl _, h.rep, h.hi, h.wf, fun _ h => (by cases h), fun _ h => (by cases h), List.nodup_nil, fun _ _ h => .inl h, by simp, .refl _, Nat.le_refl _⟩
theorem WkR.edit {most : Int} {A0 A A' : List (SlotD κ ν)} {F0 F F' : List Int} {G0 G : Nat} {t0 t tn T : HT κ ν} {km kg made gone : List Hd} (h : WkR most A0 F0 G0 t0 A F G t km kg) (hL : Laid most A F G tn A' F' T made) (hh : HiOk tn) (hp : (hds tn ++ gone).Perm (hds t)) :
   WkR most A0 F0 G0 t0 A' F' (G + freshT tn) T (km ++ made) (kg ++ gone) where
 le := h.le.trans hL.le
 rep := hL.rep
 hi := hL.hiok hh
 wf := hL.wf
 new := fun x hx s hs => by
   rcases List.mem_append.1 hx with hx | hx
   · exact h.new x hx s hs
   · exact hL.new x hx s (h.le _ _ hs)
 got := fun x hx => by
   rcases List.mem_append.1 hx with hx | hx
   · obtain ⟨s, hs⟩ := h.got x hx
     exact ⟨s, hL.le _ _ hs⟩
   · exact hL.got x hx
 nodup := List.nodup_append.2 ⟨h.nodup, hL.nodup, fun a ha b hb e => by
   subst e
   obtain ⟨s, hs⟩ := h.got a ha
   exact hL.new a hb s hs⟩
 only := fun x s hs => by
   rcases hL.only x s hs with hs | hs
   · rcases h.only x s hs with hs | hs
     · exact .inl hs
     · exact .inr (List.mem_append_left _ hs)
   · exact .inr (List.mem_append_right _ hs)
 room := by
   rw [hL.room, h.room, List.length_append, hL.len]
   push_cast
   omega
 per := by
   refine perm_of fun y => ?_
   have a := List.perm_iff_count.1 h.per y
   have b := List.perm_iff_count.1 hL.hds y
   have c := List.perm_iff_count.1 hp y
   simp only [List.count_append] at a b c ⊢
   omega
 gle := by have := h.gle; omega
/-- What was made, and is gone again, is freed: what is left is what one would have had, and nothing that was made is gone. -/
theorem WkR.done {C : κ → κ → Int} (ho : OrdC C) {most : Int} {A0 A A2 : List (SlotD κ ν)} {F0 F F2 : List Int} {G0 G : Nat} {t0 t : HT κ ν} {km kg : List Hd} (hr : RepO A0 t0) (hs0 : Srt C t0) (h : WkR most A0 F0 G0 t0 A F G t km kg) (hF : FreesA most A F G (bothH km kg) A2 F2) :
   WkR most A0 F0 G0 t0 A2 F2 G t (outH km kg) (outH kg (bothH km kg)) ∧ (∀ x ∈ outH kg (bothH km kg), x ∈ hds t0) ∧ A2.length = A.length ∧ (hds t0 ++ km).Nodup := by
 have hnd : (hds t0 ++ km).Nodup := List.nodup_append.2 ⟨repO_nodup ho hr hs0, h.nodup, fun a ha b hb e => by
   subst e
   obtain ⟨s, _, h1, _⟩ := repO_keys hr a ha
   exact h.new a hb s h1⟩
 have hnd2 := h.per.nodup_iff.2 hnd
 have hbm : ∀ x, x ∈ bothH km kg ↔ x ∈ km ∧ x ∈ kg := fun x => by unfold bothH; simp
 have hom : ∀ x, x ∈ outH km kg ↔ x ∈ km ∧ x ∉ kg := fun x => by unfold outH; simp
 have hog : ∀ x, x ∈ outH kg (bothH km kg) ↔ x ∈ kg ∧ x ∉ km := fun x => by
   unfold outH
   rw [List.mem_filter]
   simp only [decide_eq_true_eq, hbm]
   constructor
   · rintro ⟨a, b⟩; exact ⟨a, fun c => b ⟨c, a⟩⟩
   · rintro ⟨a, b⟩; exact ⟨a, fun c => b c.1⟩
 have hle : ALe A0 A2 := fun x s hs => (hF.iff x s).2 ⟨h.le x s hs, fun hb => h.new x ((hbm x).1 hb).1 s hs⟩
 have hkn : kg.Nodup := (List.nodup_append.1 hnd2).2.1
 have hdt : ∀ x ∈ hds t, x ∉ kg := fun x hx hk => (List.nodup_append.1 hnd2).2.2 x hx x hk rfl
 have hrep : ∀ {u : HT κ ν}, RepO A u → (∀ x ∈ hds u, x ∉ kg) → RepO A2 u := by
   intro u
   induction u with
   | leaf => exact fun _ _ => trivial
   | node o k v l r hi ih1 ih2 =>
     rintro ⟨⟨hd, e, s, h1, h2⟩, h3, h4⟩ hk
     subst e
     refine ⟨⟨hd, rfl, s, (hF.iff hd s).2 ⟨h1, fun hb => hk hd (by simp [hds, lv]) ((hbm hd).1 hb).2⟩, h2⟩, ih1 h3 fun x hx => hk x (by simp [hds, hx]), ih2 h4 fun x hx => hk x (by simp [hds, hx])⟩
 have hlen := both_len km kg
 refine ⟨⟨hle, hrep h.rep hdt, h.hi, hF.wf, fun x hx => h.new x ((hom x).1 hx).1, fun x hx => ?_, h.nodup.sublist List.filter_sublist, fun x s hs => ?_, ?_, ?_, h.gle⟩, fun x hx => ?_, hF.len, hnd⟩
 · obtain ⟨a, b⟩ := (hom x).1 hx
   obtain ⟨s, hs⟩ := h.got x a
   exact ⟨s, (hF.iff x s).2 ⟨hs, fun hb => b ((hbm x).1 hb).2⟩⟩
 · obtain ⟨a, b⟩ := (hF.iff x s).1 hs
   rcases h.only x s a with c | c
   · exact .inl c
   · exact .inr ((hom x).2 ⟨c, fun d => b ((hbm x).2 ⟨c, d⟩)⟩)
 · have := hF.room
   have := h.room
   omega
 · refine perm_of fun y => ?_
   have a := List.perm_iff_count.1 h.per y
   have c1 := List.nodup_iff_count.1 hkn y
   have c2 := List.nodup_iff_count.1 h.nodup y
   have e1 : (outH kg (bothH km kg)).count y = if y ∈ kg ∧ y ∉ km then 1 else 0 := by
     have hn : (outH kg (bothH km kg)).Nodup := hkn.sublist List.filter_sublist
     rw [List.Nodup.count hn]
     simp only [hog]
   have e2 : (outH km kg).count y = if y ∈ km ∧ y ∉ kg then 1 else 0 := by
     have hn : (outH km kg).Nodup := h.nodup.sublist List.filter_sublist
     rw [List.Nodup.count hn]
     simp only [hom]
   have e3 : kg.count y = if y ∈ kg then 1 else 0 := List.Nodup.count hkn
   have e4 : km.count y = if y ∈ km then 1 else 0 := List.Nodup.count h.nodup
   simp only [List.count_append] at a ⊢
   rw [e1, e2]
   rw [e3, e4] at a
   by_cases p1 : y ∈ kg <;> by_cases p2 : y ∈ km <;> simp [p1, p2] at a ⊢ <;> omega
 · obtain ⟨a, b⟩ := (hog x).1 hx
   have := (h.per.mem_iff (a := x)).1 (List.mem_append_right _ a)
   rcases List.mem_append.1 this with c | c
   · exact c
   · exact absurd c b
/-- What was made is freed: all is as it was. -/
theorem WkR.undone {most : Int} {A0 A A2 : List (SlotD κ ν)} {F0 F F2 : List Int} {G0 G : Nat} {t0 t : HT κ ν} {km kg : List Hd} (h : WkR most A0 F0 G0 t0 A F G t km kg) (hF : FreesA most A F G km A2 F2) :
   (∀ x s, InA A2 x s ↔ InA A0 x s) ∧ WfA A2 F2 G ∧ roomA most A2 F2 = roomA most A0 F0 ∧ A2.length = A.length := by
 refine ⟨fun x s => ⟨fun hs => ?_, fun hs => (hF.iff x s).2 ⟨h.le x s hs, fun hk => h.new x hk s hs⟩⟩, hF.wf, ?_, hF.len⟩
 · obtain ⟨a, b⟩ := (hF.iff x s).1 hs
   exact (h.only x s a).resolve_right b
 · have := hF.room
   have := h.room
   omega
/-- An edit, with room or without. -/
def EdR (most : Int) (A : List (SlotD κ ν)) (F : List Int) (G : Nat) (t : HT κ ν) (gone : List Hd) (ok : Bool) (rt : Hd) (A' : List (SlotD κ ν)) (F' : List Int) (T' : HT κ ν) (made gone' : List Hd) : Prop :=
 (ok = true ∧ (freshT t : Int) ≤ roomA most A F ∧ rt = T'.root ∧ gone' = gone ∧ Laid most A F G t A' F' T' made) ∨
 (ok = false ∧ roomA most A F < (freshT t : Int) ∧ rt = Hd.nil ∧ A = A' ∧ F = F' ∧ T' = .leaf ∧ made = [] ∧ gone' = [])
end
/-! ### what a change's edits come to -/
section
variable {κ ν : Type}
/-- A map behind j edits: P are the pairs that are there. -/
structure EdS (C : κ → κ → Int) (most : Int) (A0 : List (SlotD κ ν)) (F0 : List Int) (G0 : Nat) (t0 : HT κ ν) (A : List (SlotD κ ν)) (F : List Int) (G : Nat) (T : HT κ ν) (km kg : List Hd) (P : κ × ν → Prop) (j : Nat) : Prop where
 wk : WkR most A0 F0 G0 t0 A F G T km kg
 srt : Srt C T
 mem : ∀ x, x ∈ toL T ↔ P x
 len : (A.length : Int) ≤ most
 size : T.size ≤ t0.size + j
 g : G = G0 + km.length
 kmz : km.length ≤ j * (t0.size + 2)
 kgz : kg.length ≤ j * (t0.size + 2)
/-- As it was: what was made is gone. -/
structure SameA (most : Int) (A0 : List (SlotD κ ν)) (F0 : List Int) (G0 : Nat) (A : List (SlotD κ ν)) (F : List Int) (G : Nat) (z : Nat) : Prop where
 iff : ∀ x s, InA A x s ↔ InA A0 x s
 wf : WfA A F G
 room : roomA most A F = roomA most A0 F0
 len : (A.length : Int) ≤ most
 gle : G0 ≤ G
 g : G ≤ G0 + z
theorem EdS.init {C : κ → κ → Int} {most : Int} {A : List (SlotD κ ν)} {F : List Int} {G : Nat} {t : HT κ ν} (h : VOk C A F G t) (hl : (A.length : Int) ≤ most) : EdS C most A F G t A F G t [] [] (fun x => x ∈ toL t) 0 :=
 ⟨WkR.init h, h.srt, fun _ => .rfl, hl, Nat.le_refl _, rfl, Nat.zero_le _, Nat.zero_le _⟩
theorem edr_small {most : Int} {A A' : List (SlotD κ ν)} {F F' : List Int} {G : Nat} {t T : HT κ ν} {gone made gone' : List Hd} {ok : Bool} {rt : Hd} (h : EdR most A F G t gone ok rt A' F' T made gone') : made.length ≤ t.size ∧ gone'.length ≤ gone.length := by
 have := freshT_size t
 rcases h with ⟨_, _, _, rfl, hL⟩ | ⟨_, _, _, _, _, _, rfl, rfl⟩
 · exact ⟨by rw [hL.len]; exact this, Nat.le_refl _⟩
 · exact ⟨Nat.zero_le _, Nat.zero_le _⟩
theorem EdS.put {C : κ → κ → Int} (ho : OrdC C) {most : Int} {A0 A A' : List (SlotD κ ν)} {F0 F F' : List Int} {G0 G : Nat} {t0 T T' : HT κ ν} {km kg made gone' : List Hd} {P : κ × ν → Prop} {j : Nat} {k : κ} {v : ν} {rt : Hd}
   (h : EdS C most A0 F0 G0 t0 A F G T km kg P j) (hj : j ≤ 1) (hE : EdR most A F G (putT C k v T).1 (putT C k v T).2 true rt A' F' T' made gone') :
   rt = T'.root ∧ EdS C most A0 F0 G0 t0 A' F' (G + freshT (putT C k v T).1) T' (km ++ made) (kg ++ gone') (fun x => x = (k, v) ∨ P x ∧ x.1 ≠ k) (j + 1) := by
 rcases hE with ⟨_, hr, rfl, rfl, hL⟩ | ⟨h, _⟩
 · obtain ⟨p1, p2⟩ := putT_spec ho k v h.srt
   have a := putT_size C k v T
   have b := putT_gone C k v T
   have c := freshT_size (putT C k v T).1
   have d := h.size
   have e := h.kmz
   have f := h.kgz
   have g := hL.len
   have hj' : j = 0 ∨ j = 1 := by omega
   refine ⟨rfl, h.wk.edit hL (putT_hi h.wk.hi) (putT_hds C k v T), ?_, fun x => ?_, hL.most hr h.len, ?_, ?_, ?_, ?_⟩
   · unfold Srt; rw [hL.list]; exact p1
   · rw [hL.list, p2, h.mem]
   · rw [← toL_len T', hL.list, toL_len]; omega
   · have := h.g; rw [List.length_append]; omega
   · rw [List.length_append]; rcases hj' with rfl | rfl <;> omega
   · rw [List.length_append]; rcases hj' with rfl | rfl <;> omega
 · cases h
theorem EdS.del {C : κ → κ → Int} (ho : OrdC C) {most : Int} {A0 A A' : List (SlotD κ ν)} {F0 F F' : List Int} {G0 G : Nat} {t0 T T' : HT κ ν} {km kg made gone' : List Hd} {P : κ × ν → Prop} {j : Nat} {k : κ} {rt : Hd}
   (h : EdS C most A0 F0 G0 t0 A F G T km kg P j) (hj : j ≤ 1) (hE : EdR most A F G (delT C k T).1 (delT C k T).2 true rt A' F' T' made gone') :
   rt = T'.root ∧ EdS C most A0 F0 G0 t0 A' F' (G + freshT (delT C k T).1) T' (km ++ made) (kg ++ gone') (fun x => P x ∧ x.1 ≠ k) (j + 1) := by
 rcases hE with ⟨_, hr, rfl, rfl, hL⟩ | ⟨h, _⟩
 · obtain ⟨p1, p2⟩ := delT_spec ho k h.srt
   have a := delT_size C k T
   have b := delT_gone C k T
   have c := freshT_size (delT C k T).1
   have d := h.size
   have e := h.kmz
   have f := h.kgz
   have g := hL.len
   have hj' : j = 0 ∨ j = 1 := by omega
   refine ⟨rfl, h.wk.edit hL (delT_hi h.wk.hi) (delT_hds C k T), ?_, fun x => ?_, hL.most hr h.len, ?_, ?_, ?_, ?_⟩
   · unfold Srt; rw [hL.list]; exact h.srt.del ho k
   · rw [hL.list, p2, h.mem]
   · rw [← toL_len T', hL.list, toL_len]; omega
   · have := h.g; rw [List.length_append]; omega
   · rw [List.length_append]; rcases hj' with rfl | rfl <;> omega
   · rw [List.length_append]; rcases hj' with rfl | rfl <;> omega
 · cases h
/-- What a change comes to, in one map. -/
structure EdE (C : κ → κ → Int) (most : Int) (A0 : List (SlotD κ ν)) (F0 : List Int) (G0 : Nat) (t0 : HT κ ν) (A : List (SlotD κ ν)) (F : List Int) (T : HT κ ν) (km kg : List Hd) (P : κ × ν → Prop) (j : Nat) : Prop where
 wk : ∃ G : Nat, G ≤ G0 + j * (t0.size + 2) ∧ WkR most A0 F0 G0 t0 A F G T km kg
 srt : Srt C T
 mem : ∀ x, x ∈ toL T ↔ P x
 len : (A.length : Int) ≤ most
 size : T.size ≤ t0.size + j
 own : ∀ x ∈ kg, x ∈ hds t0
 kmz : km.length ≤ j * (t0.size + 2)
 kgz : kg.length ≤ j * (t0.size + 2)
/-- As it was. -/
def SameE (most : Int) (A0 : List (SlotD κ ν)) (F0 : List Int) (G0 : Nat) (A : List (SlotD κ ν)) (F : List Int) (z : Nat) : Prop := ∃ G : Nat, SameA most A0 F0 G0 A F G z
/-- A change's end: what was made, and is gone again, is freed. -/
theorem EdS.done {C : κ → κ → Int} (ho : OrdC C) {most : Int} {A0 A A2 : List (SlotD κ ν)} {F0 F F2 : List Int} {G0 G : Nat} {t0 T : HT κ ν} {km kg : List Hd} {P : κ × ν → Prop} {j : Nat} (hr : RepO A0 t0) (hs : Srt C t0)
   (h : EdS C most A0 F0 G0 t0 A F G T km kg P j) (hF : FreesA most A F G (bothH km kg) A2 F2) :
   EdE C most A0 F0 G0 t0 A2 F2 T (outH km kg) (outH kg (bothH km kg)) P j := by
 obtain ⟨a, b, c, _⟩ := h.wk.done ho hr hs hF
 exact ⟨⟨G, by have := h.g; have := h.kmz; omega, a⟩, h.srt, h.mem, by rw [c]; exact h.len, h.size, b, Nat.le_trans (List.length_filter_le _ _) h.kmz, Nat.le_trans (List.length_filter_le _ _) h.kgz⟩
theorem EdS.undone {C : κ → κ → Int} {most : Int} {A0 A A2 : List (SlotD κ ν)} {F0 F F2 : List Int} {G0 G : Nat} {t0 T : HT κ ν} {km kg : List Hd} {P : κ × ν → Prop} {j z : Nat}
   (h : EdS C most A0 F0 G0 t0 A F G T km kg P j) (hF : FreesA most A F G km A2 F2) (hz : j * (t0.size + 2) ≤ z) : SameE most A0 F0 G0 A2 F2 z := by
 obtain ⟨a, b, c, d⟩ := h.wk.undone hF
 exact ⟨G, a, b, c, by rw [d]; exact h.len, h.wk.gle, by have := h.g; have := h.kmz; omega⟩
/-- The room that is left. -/
theorem EdS.room {C : κ → κ → Int} {most : Int} {A0 A : List (SlotD κ ν)} {F0 F : List Int} {G0 G : Nat} {t0 T : HT κ ν} {km kg : List Hd} {P : κ × ν → Prop} {j : Nat} (h : EdS C most A0 F0 G0 t0 A F G T km kg P j) : roomA most A F = roomA most A0 F0 - km.length := h.wk.room
end
end Go.Proofs.YtddglbjhhnipgaaGreatDoor

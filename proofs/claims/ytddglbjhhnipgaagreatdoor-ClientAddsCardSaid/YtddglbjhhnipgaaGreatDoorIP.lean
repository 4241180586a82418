import Derived.Test.YtddglbjhhnipgaaGreatDoorHD
namespace Go.Proofs.YtddglbjhhnipgaaGreatDoor
open Go Go.RowKit
set_option linter.unusedVariables false
set_option linter.unusedSimpArgs false
set_option maxRecDepth 100000
set_option maxHeartbeats 8000000
/-! ### how great the trees are, and how many handles they have -/
section
variable {κ ν : Type}
theorem lv_len (h : Option Hd) : (lv h).length ≤ 1 := by cases h <;> simp [lv]
theorem hds_len : ∀ t : HT κ ν, (hds t).length ≤ t.size
 | .leaf => by simp [hds, HT.size]
 | .node h k v l r hi => by
   have a := hds_len l
   have b := hds_len r
   have c := lv_len h
   simp only [hds, HT.size, List.length_append]
   omega
theorem balT_size (h : Option Hd) (k : κ) (v : ν) (l r : HT κ ν) : (balT h k v l r).1.size = l.size + r.size + 1 := by
 rw [← toL_len, balT_toL, List.length_append, List.length_cons, toL_len, toL_len]; omega
theorem balT_gone (h : Option Hd) (k : κ) (v : ν) (l r : HT κ ν) : (balT h k v l r).2.length ≤ l.size + r.size + 1 := by
 have := (balT_hds h k v l r).length_eq
 have a := hds_len l
 have b := hds_len r
 have c := lv_len h
 simp only [List.length_append] at this
 omega
theorem putT_size (cmp : κ → κ → Int) (k : κ) (v : ν) : ∀ t : HT κ ν, (putT cmp k v t).1.size ≤ t.size + 1
 | .leaf => by simp [putT, HT.size]
 | .node h tk tv l r hi => by
   have a := putT_size cmp k v l
   have b := putT_size cmp k v r
   unfold putT
   split
   · simp only [balT_size, HT.size]; omega
   · split
     · simp only [balT_size, HT.size]; omega
     · simp only [HT.size]; omega
theorem putT_gone (cmp : κ → κ → Int) (k : κ) (v : ν) (t : HT κ ν) : (putT cmp k v t).2.length ≤ t.size := by
 have := (putT_hds cmp k v t).length_eq
 have a := hds_len t
 simp only [List.length_append] at this
 omega
theorem leastT_size (l : HT κ ν) (h : Option Hd) (k : κ) (v : ν) (r : HT κ ν) : (leastT h k v r l).2.1.size = l.size + r.size := by
 have := congrArg List.length (leastT_toL (l := l) (h := h) (k := k) (v := v) (r := r))
 simp only [List.length_append, List.length_cons, toL_len] at this
 omega
theorem leastT_gone (l : HT κ ν) (h : Option Hd) (k : κ) (v : ν) (r : HT κ ν) : (leastT h k v r l).2.2.length ≤ l.size + r.size + 1 := by
 have := (leastT_hds l h k v r).length_eq
 have a := hds_len l
 have b := hds_len r
 have c := lv_len h
 simp only [List.length_append] at this
 omega
theorem delT_gone (cmp : κ → κ → Int) (k : κ) (t : HT κ ν) : (delT cmp k t).2.length ≤ t.size := by
 have := (delT_hds cmp k t).length_eq
 have a := hds_len t
 simp only [List.length_append] at this
 omega
theorem delT_size (cmp : κ → κ → Int) (k : κ) : ∀ t : HT κ ν, (delT cmp k t).1.size ≤ t.size
 | .leaf => by simp [delT, HT.size]
 | .node h tk tv l r hi => by
   have a := delT_size cmp k l
   have b := delT_size cmp k r
   unfold delT
   split
   · simp only [balT_size, HT.size]; omega
   · split
     · simp only [balT_size, HT.size]; omega
     · split
       · simp only [HT.size]; omega
       · simp only [HT.size]; omega
       · simp only [balT_size, leastT_size, HT.size]; omega
end
section
variable {κ ν : Type}
/-- A tree has a key, as the search goes. -/
def HasT (cmp : κ → κ → Int) (k : κ) : HT κ ν → Prop
 | .leaf => False
 | .node _ tk _ l r _ => (cmp k tk < 0 → HasT cmp k l) ∧ (0 < cmp k tk → HasT cmp k r)
theorem HasT.of_mem {cmp : κ → κ → Int} (ho : OrdC cmp) {k : κ} {v : ν} : ∀ {t : HT κ ν}, Srt cmp t → (k, v) ∈ toL t → HasT cmp k t
 | .leaf, _, h => by simp [toL] at h
 | .node oh tk tv l r hi, hS, h => by
   obtain ⟨sl, sr, h1, h2, h3⟩ := srt_node.1 hS
   simp only [toL, List.mem_append, List.mem_cons] at h
   refine ⟨fun hc => ?_, fun hc => ?_⟩
   · rcases h with h | h | h
     · exact HasT.of_mem ho sl h
     · cases h; have := (ho.eq k k).2 rfl; omega
     · have a := h2 _ h; have b := (ho.anti tk k).1; have c := (ho.anti k tk).2 a; simp only at a c; omega
   · rcases h with h | h | h
     · have a := h1 _ h; simp only at a; omega
     · cases h; have := (ho.eq k k).2 rfl; omega
     · exact HasT.of_mem ho sr h
theorem delT_leafL (cmp : κ → κ → Int) (k tk : κ) (tv : ν) (oh : Option Hd) (r : HT κ ν) (hi : Int) (h : cmp k tk = 0) : delT cmp k (.node oh tk tv .leaf r hi) = (r, lv oh) := by
 unfold delT; rw [if_neg (by omega), if_neg (by omega)]
theorem delT_leafR (cmp : κ → κ → Int) (k tk : κ) (tv : ν) (oh : Option Hd) (l : HT κ ν) (hi : Int) (h : cmp k tk = 0) : delT cmp k (.node oh tk tv l .leaf hi) = (l, lv oh) := by
 unfold delT; rw [if_neg (by omega), if_neg (by omega)]; cases l <;> rfl
theorem delT_both (cmp : κ → κ → Int) (k tk : κ) (tv : ν) (oh lh rh : Option Hd) (lk rk : κ) (lw rw' : ν) (l r ll lr rl rr : HT κ ν) (lhi rhi hi : Int) (h : cmp k tk = 0) (e1 : l = .node lh lk lw ll lr lhi) (e2 : r = .node rh rk rw' rl rr rhi) :
   delT cmp k (.node oh tk tv l r hi) =
     ((balT (leastT rh rk rw' rr rl).1.1 (leastT rh rk rw' rr rl).1.2.1 (leastT rh rk rw' rr rl).1.2.2 l (leastT rh rk rw' rr rl).2.1).1,
         lv oh ++ ((leastT rh rk rw' rr rl).2.2 ++ (balT (leastT rh rk rw' rr rl).1.1 (leastT rh rk rw' rr rl).1.2.1 (leastT rh rk rw' rr rl).1.2.2 l (leastT rh rk rw' rr rl).2.1).2)) := by
 subst e1 e2
 rw [delT, if_neg (by omega), if_neg (by omega)]
 intro h; cases h
theorem delT_lt (cmp : κ → κ → Int) (k tk : κ) (tv : ν) (oh : Option Hd) (l r : HT κ ν) (hi : Int) (h : cmp k tk < 0) : delT cmp k (.node oh tk tv l r hi) = ((balT oh tk tv (delT cmp k l).1 r).1, (delT cmp k l).2 ++ (balT oh tk tv (delT cmp k l).1 r).2) := by
 rw [delT.eq_def]; simp only; rw [if_pos h]
theorem delT_gt (cmp : κ → κ → Int) (k tk : κ) (tv : ν) (oh : Option Hd) (l r : HT κ ν) (hi : Int) (h : 0 < cmp k tk) : delT cmp k (.node oh tk tv l r hi) = ((balT oh tk tv l (delT cmp k r).1).1, (delT cmp k r).2 ++ (balT oh tk tv l (delT cmp k r).1).2) := by
 rw [delT.eq_def]; simp only; rw [if_neg (by omega), if_pos h]
end
section
variable {κ ν : Type}
/-- How many nodes of a tree an arena hasn't. -/
def freshT : HT κ ν → Nat | .leaf => 0 | .node (some _) _ _ _ _ _ => 0 | .node none _ _ l r _ => 1 + freshT l + freshT r
theorem freshT_size : ∀ t : HT κ ν, freshT t ≤ t.size
 | .leaf => by simp [freshT, HT.size]
 | .node (some _) _ _ _ _ _ => by simp [freshT]
 | .node none _ _ l r _ => by
   have a := freshT_size l
   have b := freshT_size r
   simp only [freshT, HT.size]
   omega
theorem RepF.pos {A : List (SlotD κ ν)} {h : Hd} {k : κ} {v : ν} {l r : HT κ ν} {hi : Int} (hr : RepF A (.node (some h) k v l r hi)) : 1 ≤ h.s := by
 obtain ⟨⟨hd, e, s, ⟨i, h1, _⟩, _⟩, _⟩ := hr
 cases e
 omega
end
/-! ### what store comes to -/
section
variable {κ ν : Type}
structure Laid (most : Int) (A : List (SlotD κ ν)) (F : List Int) (G : Nat) (t : HT κ ν) (A' : List (SlotD κ ν)) (F' : List Int) (T' : HT κ ν) (made : List Hd) : Prop where
 rep : RepO A' T'
 le : ALe A A'
 list : toL T' = toL t
 high : T'.high = t.high
 hiok : HiOk t → HiOk T'
 hds : (hds T').Perm (hds t ++ made)
 len : made.length = freshT t
 new : ∀ h ∈ made, ∀ s, ¬ InA A h s
 got : ∀ h ∈ made, ∃ s, InA A' h s
 nodup : made.Nodup
 only : ∀ h s, InA A' h s → InA A h s ∨ h ∈ made
 wf : WfA A' F' (G + freshT t)
 room : roomA most A' F' = roomA most A F - freshT t
 most : (freshT t : Int) ≤ roomA most A F → (A.length : Int) ≤ most → (A'.length : Int) ≤ most
theorem Laid.leaf {most : Int} {A : List (SlotD κ ν)} {F : List Int} {G : Nat} (hw : WfA A F G) : Laid most A F G .leaf A F .leaf [] :=
 ⟨trivial, fun _ _ h => h, rfl, rfl, id, .refl _, rfl, fun h hh => (by cases hh), fun h hh => (by cases hh), List.nodup_nil, fun _ _ h => .inl h, hw, by simp [freshT], fun _ h => h⟩
theorem Laid.old {most : Int} {A : List (SlotD κ ν)} {F : List Int} {G : Nat} {h : Hd} {k : κ} {v : ν} {l r : HT κ ν} {hi : Int} (hR : RepF A (.node (some h) k v l r hi)) (hw : WfA A F G) : Laid most A F G (.node (some h) k v l r hi) A F (.node (some h) k v l r hi) [] :=
 ⟨hR, fun _ _ h => h, rfl, rfl, id, by simp, rfl, fun h hh => (by cases hh), fun h hh => (by cases hh), List.nodup_nil, fun _ _ h => .inl h, hw, by simp [freshT], fun _ h => h⟩
theorem Laid.node {most : Int} {A A1 A2 A3 : List (SlotD κ ν)} {F F1 F2 F3 : List Int} {G : Nat} {k : κ} {v : ν} {l r L R : HT κ ν} {hi : Int} {n1 n2 : List Hd} {h : Hd} {x : SlotD κ ν}
   (h1 : Laid most A F G l A1 F1 L n1) (h2 : Laid most A1 F1 (G + freshT l) r A2 F2 R n2) (h3 : PutA most A2 F2 x A3 F3 h) (hw : WfA A3 F3 (G + freshT l + freshT r + 1))
   (hk : x.k = k) (hv : x.v = v) (hl : x.lh = L.root) (hr : x.rh = R.root) (hh : x.hi = hi) :
   Laid most A F G (.node none k v l r hi) A3 F3 (.node (some h) k v L R hi) (n1 ++ n2 ++ [h]) where
 rep := ⟨⟨h, rfl, _, h3.got, hk, hv, hl, hr, hh⟩, (h1.rep.mono h2.le).mono h3.le, h2.rep.mono h3.le⟩
 le := fun a s ha => h3.le _ _ (h2.le _ _ (h1.le _ _ ha))
 list := by simp only [toL, h1.list, h2.list]
 high := rfl
 hiok := fun ⟨a, b, c⟩ => ⟨by rw [h1.high, h2.high]; exact a, h1.hiok b, h2.hiok c⟩
 hds := by
   refine perm_of fun y => ?_
   have a := List.perm_iff_count.1 h1.hds y
   have b := List.perm_iff_count.1 h2.hds y
   simp only [Go.Proofs.YtddglbjhhnipgaaGreatDoor.hds, lv, List.count_append, List.nil_append] at a b ⊢
   omega
 len := by simp only [List.length_append, List.length_singleton, h1.len, h2.len, freshT]; omega
 new := by
   intro a ha s hs
   rcases List.mem_append.1 ha with ha | ha
   · rcases List.mem_append.1 ha with ha | ha
     · exact h1.new a ha s hs
     · exact h2.new a ha s (h1.le _ _ hs)
   · obtain rfl := List.mem_singleton.1 ha
     exact h3.new s (h2.le _ _ (h1.le _ _ hs))
 got := by
   intro a ha
   rcases List.mem_append.1 ha with ha | ha
   · rcases List.mem_append.1 ha with ha | ha
     · obtain ⟨s, hs⟩ := h1.got a ha
       exact ⟨s, h3.le _ _ (h2.le _ _ hs)⟩
     · obtain ⟨s, hs⟩ := h2.got a ha
       exact ⟨s, h3.le _ _ hs⟩
   · obtain rfl := List.mem_singleton.1 ha
     exact ⟨_, h3.got⟩
 nodup := by
   refine List.nodup_append.2 ⟨List.nodup_append.2 ⟨h1.nodup, h2.nodup, fun a ha b hb e => ?_⟩, by simp, fun a ha b hb e => ?_⟩
   · subst e
     obtain ⟨s, hs⟩ := h1.got a ha
     exact h2.new a hb s hs
   · obtain rfl := List.mem_singleton.1 hb
     subst e
     rcases List.mem_append.1 ha with ha | ha
     · obtain ⟨s, hs⟩ := h1.got a ha
       exact h3.new s (h2.le _ _ hs)
     · obtain ⟨s, hs⟩ := h2.got a ha
       exact h3.new s hs
 only := by
   intro a s hs
   rcases h3.only a s hs with hs | ⟨rfl, _⟩
   · rcases h2.only a s hs with hs | hs
     · rcases h1.only a s hs with hs | hs
       · exact .inl hs
       · exact .inr (by simp [hs])
     · exact .inr (by simp [hs])
   · exact .inr (by simp)
 wf := by
   have e : G + freshT (.node none k v l r hi) = G + freshT l + freshT r + 1 := by simp only [freshT]; omega
   rw [e]
   exact hw
 room := by
   rw [h3.room, h2.room, h1.room]
   simp only [freshT]
   push_cast
   omega
 most := by
   intro a b
   simp only [freshT] at a
   push_cast at a
   have e1 := h1.room
   have e2 := h2.room
   refine h3.len (by omega) (h2.most (by omega) (h1.most (by omega) b))
/-- There are no more free slots than slots. -/
theorem few_in : ∀ (n : Nat) (F : List Int), F.Nodup → (∀ x ∈ F, 1 ≤ x ∧ x ≤ n) → F.length ≤ n
 | 0, F, _, h => by
   cases F with
   | nil => simp
   | cons x l => have := h x (by simp); omega
 | n + 1, F, hn, h => by
   have a := few_in n (F.erase ((n : Int) + 1)) (hn.erase _) (fun x hx => by
     have h1 := h x (List.mem_of_mem_erase hx)
     have h2 : x ≠ (n : Int) + 1 := ((List.Nodup.mem_erase_iff hn).1 hx).1
     push_cast at h1
     omega)
   have b := List.length_erase (a := (n : Int) + 1) (l := F)
   by_cases hm : ((n : Int) + 1) ∈ F
   · rw [if_pos hm] at b; omega
   · rw [if_neg hm] at b; omega
theorem WfA.few {A : List (SlotD κ ν)} {F : List Int} {G : Nat} (h : WfA A F G) : F.length ≤ A.length := by
 refine few_in _ _ h.nodup fun x hx => ?_
 obtain ⟨j, rfl, s, h1, _⟩ := h.free x hx
 have := (List.getElem?_eq_some_iff.1 h1).1
 omega
end
section
variable {κ ν : Type}
/-- A key's value, as the search goes. -/
def getT (cmp : κ → κ → Int) (k : κ) : HT κ ν → Option ν
 | .leaf => none
 | .node _ tk tv l r _ => if cmp k tk < 0 then getT cmp k l else if 0 < cmp k tk then getT cmp k r else some tv
theorem getT_has {cmp : κ → κ → Int} {k : κ} : ∀ {t : HT κ ν}, (getT cmp k t).isSome = true → HasT cmp k t
 | .leaf, h => by simp [getT] at h
 | .node _ tk tv l r _, h => by
   simp only [getT] at h
   simp only [HasT]
   by_cases h1 : cmp k tk < 0
   · rw [if_pos h1] at h
     exact ⟨fun _ => getT_has h, fun h2 => by omega⟩
   · rw [if_neg h1] at h
     by_cases h2 : 0 < cmp k tk
     · rw [if_pos h2] at h
       exact ⟨fun h3 => by omega, fun _ => getT_has h⟩
     · exact ⟨fun h3 => (h1 h3).elim, fun h3 => (h2 h3).elim⟩
theorem getT_iff {cmp : κ → κ → Int} (ho : OrdC cmp) {k : κ} {v : ν} : ∀ {t : HT κ ν}, Srt cmp t → (getT cmp k t = some v ↔ (k, v) ∈ toL t)
 | .leaf, _ => by simp [getT, toL]
 | .node oh tk tv l r hi, hs => by
   obtain ⟨s1, s2, s3, s4, _⟩ := srt_node.1 hs
   have il := getT_iff ho (k := k) (v := v) s1
   have ir := getT_iff ho (k := k) (v := v) s2
   simp only [getT, toL, List.mem_append, List.mem_cons]
   by_cases h1 : cmp k tk < 0
   · rw [if_pos h1, il]
     constructor
     · exact .inl
     · rintro (h | h | h)
       · exact h
       · cases h
         have := (ho.eq k k).2 rfl
         omega
       · have h3 : cmp tk k < 0 := s4 _ h
         have := (ho.anti k tk).2 h3
         omega
   · rw [if_neg h1]
     by_cases h2 : 0 < cmp k tk
     · rw [if_pos h2, ir]
       constructor
       · exact fun h => .inr (.inr h)
       · rintro (h | h | h)
         · have h3 : cmp k tk < 0 := s3 _ h
           omega
         · cases h
           have := (ho.eq k k).2 rfl
           omega
         · exact h
     · rw [if_neg h2]
       have hk : cmp k tk = 0 := by omega
       have e : k = tk := (ho.eq k tk).1 hk
       subst e
       constructor
       · intro h
         cases h
         exact .inr (.inl rfl)
       · rintro (h | h | h)
         · have h3 : cmp k k < 0 := s3 _ h
           omega
         · cases h
           rfl
         · have h3 : cmp k k < 0 := s4 _ h
           omega
end
section
variable {κ ν : Type}
/-- What is left where handles were freed, one by one. -/
structure FreesA (most : Int) (A : List (SlotD κ ν)) (F : List Int) (G : Nat) (hs : List Hd) (A' : List (SlotD κ ν)) (F' : List Int) : Prop where
 wf : WfA A' F' G
 iff : ∀ h' s, InA A' h' s ↔ InA A h' s ∧ h' ∉ hs
 room : roomA most A' F' = roomA most A F + hs.length
 len : A'.length = A.length
theorem FreesA.nil {most : Int} {A : List (SlotD κ ν)} {F : List Int} {G : Nat} (h : WfA A F G) : FreesA most A F G [] A F := ⟨h, fun _ _ => by simp, by simp, rfl⟩
theorem FreesA.snoc {most : Int} {A A1 A2 : List (SlotD κ ν)} {F F1 F2 : List Int} {G : Nat} {hs : List Hd} {h : Hd} (a : FreesA most A F G hs A1 F1) (b : WfA A2 F2 G) (c : FreeA most A1 F1 h A2 F2) (d : A2.length = A1.length) : FreesA most A F G (hs ++ [h]) A2 F2 :=
 ⟨b, fun h' s => by rw [c.iff, a.iff]; simp [and_assoc], by rw [c.room, a.room]; simp; omega, d.trans a.len⟩
theorem FreesA.has {most : Int} {A A1 : List (SlotD κ ν)} {F F1 : List Int} {G : Nat} {hs : List Hd} {h : Hd} {s : SlotD κ ν} (a : FreesA most A F G hs A1 F1) (hi : InA A h s) (hn : h ∉ hs) : InA A1 h s := (a.iff h s).2 ⟨hi, hn⟩
theorem FreesA.trans {most : Int} {A A1 A2 : List (SlotD κ ν)} {F F1 F2 : List Int} {G : Nat} {hs hs2 : List Hd} (a : FreesA most A F G hs A1 F1) (b : FreesA most A1 F1 G hs2 A2 F2) : FreesA most A F G (hs ++ hs2) A2 F2 :=
 ⟨b.wf, fun h' s => by rw [b.iff, a.iff]; simp [and_assoc], by rw [b.room, a.room]; simp; omega, b.len.trans a.len⟩
theorem nodup_take {xs : List Hd} (h : xs.Nodup) {i : Nat} {x : Hd} (hx : xs[i]? = some x) : x ∉ xs.take i := by
 obtain ⟨hi, he⟩ := List.getElem?_eq_some_iff.1 hx
 have e : xs.drop i = x :: xs.drop (i + 1) := by rw [List.drop_eq_getElem_cons hi, he]
 have h2 := h
 rw [← List.take_append_drop i xs, e] at h2
 exact fun hm => (List.nodup_append.1 h2).2.2 x hm x (List.mem_cons_self ..) rfl
end
end Go.Proofs.YtddglbjhhnipgaaGreatDoor

import Derived.Test.YtddglbjhhnipgaaGreatDoorGA
import Derived.Maps.Keyed
import Derived.Laws.IdiomRangeMap
import Derived.Maps.RangeWalk
import Derived.Maps.OwnSet
namespace Go.Proofs.YtddglbjhhnipgaaGreatDoor
open Go Go.RowKit Go.MapKept
set_option linter.unusedVariables false
set_option linter.unusedSimpArgs false
set_option maxRecDepth 100000
set_option maxHeartbeats 8000000
/-! ### a map from ints to places in a tree -/
/-- Where a node is: below which one, by which name. -/
structure Loc where
 up : Int
 name : ByteArray
/-- The spot of a node, as a value. -/
def vL : Option Loc → Value
 | some l => .agg #[.bool true, .int .i64 l.up, .string l.name]
 | none => .agg #[.bool false, .int .i64 0, .string ⟨#[]⟩]
structure Reads (es : Array MapEntry) (clock : Nat) (f : Int → Option Loc) : Prop where
 st : Stamped es clock
 mem : ∀ x ∈ es.toList, ∃ k l, x.key = .int .i64 k ∧ f k = some l ∧ x.val = vL (some l)
 all : ∀ k l, f k = some l → ∃ x ∈ es.toList, x.key = .int .i64 k
def mapP (b : Nat) (f : Int → Option Loc) : HProp := ex fun es => ex fun clock => all [lift (Reads es clock f), own b (.map es clock)]
theorem Sat.mapE {w : World} {l : List HProp} {b : Nat} {f : Int → Option Loc} (hs : Sat w (mapP b f :: l)) : ∃ es clock, Reads es clock f ∧ Sat w (own b (.map es clock) :: l) := by
 obtain ⟨es, h⟩ := hs.exE
 obtain ⟨clock, h⟩ := h.exE
 exact ⟨es, clock, h.allE.liftE⟩
theorem Sat.mapI {w : World} {l : List HProp} {b : Nat} {f : Int → Option Loc} {es : Array MapEntry} {clock : Nat} (hr : Reads es clock f) (hs : Sat w (own b (.map es clock) :: l)) : Sat w (mapP b f :: l) :=
 Sat.exI es (Sat.exI clock (Sat.allI (hs.liftI hr)))
theorem nodup_idx {α : Type} {l : List α} (h : l.Nodup) {i j : Nat} {a : α} (hi : l[i]? = some a) (hj : l[j]? = some a) : i = j := by
 obtain ⟨hi1, hi2⟩ := List.getElem?_eq_some_iff.1 hi
 obtain ⟨hj1, hj2⟩ := List.getElem?_eq_some_iff.1 hj
 have hp := List.pairwise_iff_getElem.1 h
 rcases Nat.lt_trichotomy i j with hlt | heq | hgt
 · exact absurd (hi2.trans hj2.symm) (hp i j hi1 hj1 hlt)
 · exact heq
 · exact absurd (hj2.trans hi2.symm) (hp j i hj1 hi1 hgt)
theorem key_idx {es : Array MapEntry} {clock : Nat} (h : Stamped es clock) {i j : Nat} {x y : MapEntry} (hi : es.toList[i]? = some x) (hj : es.toList[j]? = some y) (e : x.key = y.key) : i = j :=
 nodup_idx h.2.2 (i := i) (j := j) (a := x.key) (by rw [List.getElem?_map, hi]; rfl) (by rw [List.getElem?_map, hj, e]; rfl)
theorem reads_keys {es : Array MapEntry} {clock : Nat} {f : Int → Option Loc} (h : Reads es clock f) : ∀ x ∈ es.toList, IsKey (.int .i64) x.key := fun x hx => by
 obtain ⟨k, l, e, _⟩ := h.mem x hx
 rw [e]; rfl
theorem reads_find {es : Array MapEntry} {clock : Nat} {f : Int → Option Loc} (h : Reads es clock f) (k : Int) :
   (Instr.findNow (.int .i64) (.int .i64 k) es.toList 0 = some none ∧ f k = none ∧ ∀ x ∈ es.toList, x.key ≠ .int .i64 k) ∨ ∃ j e l, Instr.findNow (.int .i64) (.int .i64 k) es.toList 0 = some (some (j, e.val)) ∧ es.toList[j]? = some e ∧ e.key = .int .i64 k ∧ f k = some l ∧ e.val = vL (some l) := by
 rcases findNow_spec (k := .int .i64 k) (d := .int .i64) rfl es.toList 0 (reads_keys h) with ⟨h1, h2⟩ | ⟨j, e, h1, h2, h3⟩
 · refine .inl ⟨h1, ?_, h2⟩
   cases hf : f k with
   | none => rfl
   | some l =>
     obtain ⟨x, hx, e⟩ := h.all k l hf
     exact absurd e (h2 x hx)
 · obtain ⟨k', l, e1, e2, e3⟩ := h.mem e (List.mem_of_getElem? h2)
   rw [h3] at e1
   cases e1
   exact .inr ⟨j, e, l, by rw [h1, Nat.zero_add], h2, h3, e2, e3⟩
section
variable {P : Program} {t kt et : TypeId}
theorem run_look {w : World} {l : List HProp} {b : Nat} {f : Int → Option Loc} (hs : Sat w (mapP b f :: l)) (ht : P.underlying t = some (.map kt et)) (hk : P.underlying kt = some (.int .i64)) (hz : ∀ w, (zeroValue et).run P w = .ok (vL none) w) (k : Int) :
   (Instr.lookup t (.map (some b)) (.int .i64 k) false).run P w = .ok (vL (f k)) w ∧ (Instr.lookup t (.map (some b)) (.int .i64 k) true).run P w = .ok (.tuple #[vL (f k), .bool (f k).isSome]) w := by
 obtain ⟨es, clock, hr, ho⟩ := hs.mapE
 have hb := ho.get
 rcases reads_find hr k with ⟨h1, h2, _⟩ | ⟨j, e, l', h1, h2, h3, h4, h5⟩
 · rw [h2]
   constructor <;> simp [Instr.lookup, run_underlying ht, MapKept.run_getObj_map hb, MapKept.run_checkKey hk (k := .int .i64 k) rfl, MapKept.run_findKey hk h1, hz, Result.andThen]
 · rw [h4]
   constructor <;> simp [Instr.lookup, run_underlying ht, MapKept.run_getObj_map hb, MapKept.run_checkKey hk (k := .int .i64 k) rfl, MapKept.run_findKey hk h1, h5, Result.andThen]
theorem Sat.setBlock {w : World} {b : Nat} {o o' : Obj} {l : List HProp} (hs : Sat w (own b o :: l)) : Sat { w with heap := w.heap.setIfInBounds b o' } (own b o' :: l) ∧ Kp w { w with heap := w.heap.setIfInBounds b o' } :=
 ⟨hs.turn (by simp [hs.lt]) (fun k _ hk => by simp [Ne.symm hk]), ⟨rfl, rfl, rfl, by simp⟩⟩
def upd (f : Int → Option Loc) (k : Int) (v : Option Loc) : Int → Option Loc := fun j => if j = k then v else f j
theorem upd_same (f : Int → Option Loc) (k : Int) (v : Option Loc) : upd f k v k = v := by simp [upd]
theorem upd_other {f : Int → Option Loc} {k j : Int} {v : Option Loc} (h : j ≠ k) : upd f k v j = f j := by simp [upd, h]
theorem other_born {es : Array MapEntry} {clock : Nat} (h : Stamped es clock) {x y : MapEntry} (hx : x ∈ es.toList) (hy : y ∈ es.toList) (e : x.key = y.key) : x = y := by
 obtain ⟨i, hi⟩ := List.getElem?_of_mem hx
 obtain ⟨j, hj⟩ := List.getElem?_of_mem hy
 obtain rfl := key_idx h hi hj e
 rw [hi] at hj
 exact Option.some.inj hj
theorem run_store {w : World} {l : List HProp} {b : Nat} {f : Int → Option Loc} (hs : Sat w (mapP b f :: l)) (ht : P.underlying t = some (.map kt et)) (hk : P.underlying kt = some (.int .i64)) (k : Int) (s : Loc) :
   ∃ w', (Instr.mapUpdate t (.map (some b)) (.int .i64 k) (vL (some s))).run P w = .ok () w' ∧ Sat w' (mapP b (upd f k (some s)) :: l) ∧ Kp w w' := by
 obtain ⟨es, clock, hr, ho⟩ := hs.mapE
 have hb := ho.get
 rcases reads_find hr k with ⟨h1, h2, h3⟩ | ⟨j, e, l', h1, h2, h3, h4, h5⟩
 · have ho2 := ho.setBlock (o' := .map (es.push ⟨.int .i64 k, vL (some s), clock⟩) (clock + 1))
   refine ⟨_, by simp [Instr.mapUpdate, run_underlying ht, MapKept.run_getObj_map hb, MapKept.run_checkKey hk (k := .int .i64 k) rfl, MapKept.run_findKey hk h1, MapKept.run_setObj_map _ hb, Result.andThen], Sat.mapI ⟨stamped_push hr.st h3, ?_, ?_⟩ ho2.1, ho2.2⟩
   · intro x hx
     simp only [Array.toList_push, List.mem_append, List.mem_singleton] at hx
     rcases hx with hx | rfl
     · obtain ⟨k', l', e1, e2, e3⟩ := hr.mem x hx
       refine ⟨k', l', e1, ?_, e3⟩
       rw [upd_other (fun e => h3 x hx (by rw [e1, e]))]
       exact e2
     · exact ⟨k, s, rfl, upd_same _ _ _, rfl⟩
   · intro k' l' hf
     by_cases hkk : k' = k
     · subst hkk
       exact ⟨⟨.int .i64 k', vL (some s), clock⟩, by simp, rfl⟩
     · rw [upd_other hkk] at hf
       obtain ⟨x, hx, e⟩ := hr.all k' l' hf
       exact ⟨x, by simp [hx], e⟩
 · have hj : es[j]? = some e := by simpa using h2
   have hkeyf : ∀ e', es[j]? = some e' → ({ e' with key := .int .i64 k, val := vL (some s) } : MapEntry).key = e'.key := fun e' he' => by rw [hj] at he'; cases he'; exact h3.symm
   have ho2 := ho.setBlock (o' := .map (es.modify j (fun e' => { e' with key := .int .i64 k, val := vL (some s) })) clock)
   have hel : ∀ i : Nat, (es.modify j (fun e' => { e' with key := .int .i64 k, val := vL (some s) })).toList[i]? = if i = j then some { e with key := .int .i64 k, val := vL (some s) } else es.toList[i]? := by
     intro i
     rw [Array.getElem?_toList, Array.getElem?_modify]
     by_cases hij : j = i
     · subst hij
       rw [if_pos rfl, if_pos rfl, hj]; rfl
     · rw [if_neg hij, if_neg (Ne.symm hij), Array.getElem?_toList]
       
   refine ⟨_, by simp [Instr.mapUpdate, run_underlying ht, MapKept.run_getObj_map hb, MapKept.run_checkKey hk (k := .int .i64 k) rfl, MapKept.run_findKey hk h1, hj, h3, MapKept.run_keyThatStays (d := .int .i64) (k := .int .i64 k) rfl, MapKept.run_setObj_map _ hb, Result.andThen], Sat.mapI ⟨stamped_modify hr.st j (fun e' => { e' with key := .int .i64 k, val := vL (some s) }) (fun _ _ => rfl) (fun e' _ he' => hkeyf e' he'), ?_, ?_⟩ ho2.1, ho2.2⟩
   · intro x hx
     obtain ⟨i, hi⟩ := List.getElem?_of_mem hx
     rw [hel] at hi
     split at hi
     · simp only [Option.some.injEq] at hi
       subst hi
       exact ⟨k, s, rfl, upd_same _ _ _, rfl⟩
     · next hij =>
       have hxm := List.mem_of_getElem? hi
       obtain ⟨k', l'', e1, e2, e3⟩ := hr.mem x hxm
       refine ⟨k', l'', e1, ?_, e3⟩
       rw [upd_other]
       · exact e2
       · rintro rfl
         exact hij (key_idx hr.st hi h2 (by rw [e1, h3]))
   · intro k' l'' hf
     by_cases hkk : k' = k
     · subst hkk
       exact ⟨_, List.mem_of_getElem? (by rw [hel, if_pos rfl]), rfl⟩
     · rw [upd_other hkk] at hf
       obtain ⟨x, hx, e1⟩ := hr.all k' l'' hf
       obtain ⟨i, hi⟩ := List.getElem?_of_mem hx
       refine ⟨x, List.mem_of_getElem? (i := i) (by
         rw [hel, if_neg, hi]
         rintro rfl
         rw [h2] at hi
         cases hi
         rw [h3] at e1
         cases e1
         exact hkk rfl), e1⟩
theorem run_delete {w : World} {l : List HProp} {b : Nat} {f : Int → Option Loc} (hs : Sat w (mapP b f :: l)) (ht : P.underlying t = some (.map kt et)) (hk : P.underlying kt = some (.int .i64)) (k : Int) (ty : TypeId) :
   ∃ w', (Builtin.delete_ #[t, kt] ty #[.map (some b), .int .i64 k]).run P w = .ok (.tuple #[]) w' ∧ Sat w' (mapP b (upd f k none) :: l) ∧ Kp w w' := by
 obtain ⟨es, clock, hr, ho⟩ := hs.mapE
 have hb := ho.get
 rcases reads_find hr k with ⟨h1, h2, h3⟩ | ⟨j, e, l', h1, h2, h3, h4, h5⟩
 · have ho2 := ho.setBlock (o' := .map es clock)
   have hfe : upd f k none = f := by
     funext j
     by_cases hj : j = k
     · subst hj; rw [upd_same, h2]
     · rw [upd_other hj]
   refine ⟨_, by simp [Builtin.delete_, run_underlying ht, MapKept.run_getObj_map hb, MapKept.run_checkKey hk (k := .int .i64 k) rfl, MapKept.run_findKey hk h1, MapKept.run_setObj_map _ hb, Result.andThen], Sat.mapI (by rw [hfe]; exact hr) ho2.1, ho2.2⟩
 · have hjs : j < es.size := by have := (List.getElem?_eq_some_iff.1 h2).1; simpa using this
   have hsub : (es.eraseIdxIfInBounds j).toList = es.toList.eraseIdx j := by
     unfold Array.eraseIdxIfInBounds
     rw [dif_pos hjs]
     simp
   have ho2 := ho.setBlock (o' := .map (es.eraseIdxIfInBounds j) clock)
   refine ⟨_, by simp [Builtin.delete_, run_underlying ht, MapKept.run_getObj_map hb, MapKept.run_checkKey hk (k := .int .i64 k) rfl, MapKept.run_findKey hk h1, MapKept.run_setObj_map _ hb, Result.andThen], Sat.mapI ⟨stamped_erase hr.st j, ?_, ?_⟩ ho2.1, ho2.2⟩
   · intro x hx
     rw [hsub] at hx
     obtain ⟨i, hne, hi⟩ := List.mem_eraseIdx_iff_getElem?.1 hx
     have hxm := List.mem_of_getElem? hi
     obtain ⟨k', l'', e1, e2, e3⟩ := hr.mem x hxm
     refine ⟨k', l'', e1, ?_, e3⟩
     rw [upd_other]
     · exact e2
     · rintro rfl
       exact hne (key_idx hr.st hi h2 (by rw [e1, h3]))
   · intro k' l'' hf
     by_cases hkk : k' = k
     · subst hkk
       rw [upd_same] at hf
       cases hf
     · rw [upd_other hkk] at hf
       obtain ⟨x, hx, e1⟩ := hr.all k' l'' hf
       obtain ⟨i, hi⟩ := List.getElem?_of_mem hx
       refine ⟨x, ?_, e1⟩
       rw [hsub]
       refine List.mem_eraseIdx_iff_getElem?.2 ⟨i, ?_, hi⟩
       rintro rfl
       rw [h2] at hi
       cases hi
       rw [h3] at e1
       cases e1
       exact hkk rfl
end
/-! ### ranging over such a map -/
/-- What an iterator has handed out, in order. -/
structure Handed (es : Array MapEntry) (seen : Array Nat) (S : List (Int × Loc)) (L : List MapEntry) : Prop where
 mem : ∀ x ∈ L, x ∈ es.toList
 born : seen.toList = L.map (·.born)
 is : L.map (fun x => (x.key, x.val)) = S.map (fun p => (Value.int .i64 p.1, vL (some p.2)))
 nodup : (L.map (·.key)).Nodup
structure Rng (es : Array MapEntry) (clock since : Nat) (seen : Array Nat) (c0 : Nat) (f : Int → Option Loc) (S : List (Int × Loc)) (cnt : Nat) : Prop where
 rd : Reads es clock f
 old : ∀ x ∈ es.toList, x.born < since
 le : since ≤ c0
 sc : since ≤ clock
 hd : ∃ L, Handed es seen S L
 left : (leftOf es seen).size = cnt
/-- A map at b that is ranged over by an iterator at r, which has handed out S. -/
def rngP (b r : Nat) (f : Int → Option Loc) (S : List (Int × Loc)) (cnt : Nat) : HProp :=
 ex fun es => ex fun clock => ex fun since => ex fun seen => ex fun c0 => all [lift (Rng es clock since seen c0 f S cnt), own b (.map es clock), own r (.mapIter (some b) since seen c0)]
theorem Sat.rngE {w : World} {l : List HProp} {b r : Nat} {f : Int → Option Loc} {S : List (Int × Loc)} {cnt : Nat} (hs : Sat w (rngP b r f S cnt :: l)) :
   ∃ es clock since seen c0, Rng es clock since seen c0 f S cnt ∧ Sat w (own b (.map es clock) :: own r (.mapIter (some b) since seen c0) :: l) := by
 obtain ⟨es, h⟩ := hs.exE
 obtain ⟨clock, h⟩ := h.exE
 obtain ⟨since, h⟩ := h.exE
 obtain ⟨seen, h⟩ := h.exE
 obtain ⟨c0, h⟩ := h.exE
 exact ⟨es, clock, since, seen, c0, h.allE.liftE⟩
theorem Sat.rngI {w : World} {l : List HProp} {b r : Nat} {f : Int → Option Loc} {S : List (Int × Loc)} {cnt : Nat} {es : Array MapEntry} {clock since : Nat} {seen : Array Nat} {c0 : Nat} (hr : Rng es clock since seen c0 f S cnt)
   (hs : Sat w (own b (.map es clock) :: own r (.mapIter (some b) since seen c0) :: l)) : Sat w (rngP b r f S cnt :: l) :=
 Sat.exI es (Sat.exI clock (Sat.exI since (Sat.exI seen (Sat.exI c0 (Sat.allI (hs.liftI hr))))))
/-- The loop is over: the map stays. -/
theorem Sat.rngDone {w : World} {l : List HProp} {b r : Nat} {f : Int → Option Loc} {S : List (Int × Loc)} {cnt : Nat} (hs : Sat w (rngP b r f S cnt :: l)) : Sat w (mapP b f :: l) := by
 obtain ⟨es, clock, since, seen, c0, hr, ho⟩ := hs.rngE
 exact Sat.mapI hr.rd (ho.pull 1).tail
theorem Sat.rngLeft {w : World} {l : List HProp} {b r : Nat} {f : Int → Option Loc} {S : List (Int × Loc)} {cnt : Nat} (hs : Sat w (rngP b r f S cnt :: l)) : w.rangeLeft b r = cnt := by
 obtain ⟨es, clock, since, seen, c0, hr, ho⟩ := hs.rngE
 unfold World.rangeLeft
 rw [ho.get, (ho.pull 1).get]
 exact hr.left
theorem Rng.facts {es : Array MapEntry} {clock since : Nat} {seen : Array Nat} {c0 : Nat} {f : Int → Option Loc} {S : List (Int × Loc)} {cnt : Nat} (h : Rng es clock since seen c0 f S cnt) : (∀ p ∈ S, f p.1 = some p.2) ∧ (S.map Prod.fst).Nodup := by
 obtain ⟨L, hL⟩ := h.hd
 constructor
 · intro p hp
   have h1 : (Value.int .i64 p.1, vL (some p.2)) ∈ S.map (fun p => (Value.int .i64 p.1, vL (some p.2))) := List.mem_map.2 ⟨p, hp, rfl⟩
   rw [← hL.is] at h1
   obtain ⟨x, hx, e⟩ := List.mem_map.1 h1
   obtain ⟨k, l, e1, e2, e3⟩ := h.rd.mem x (hL.mem x hx)
   simp only [Prod.mk.injEq] at e
   rw [e1, e3] at e
   obtain ⟨a, b⟩ := e
   cases a
   have hl : l = p.2 := by
     simp only [vL, Value.agg.injEq] at b
     have b0 := congrArg (·[1]?) b
     have b1 := congrArg (·[2]?) b
     simp at b0 b1
     cases l; cases hp2 : p.2; simp_all
   rw [e2, hl]
 · have h1 := hL.nodup
   have h2 : L.map (·.key) = (S.map Prod.fst).map (Value.int .i64) := by
     have := congrArg (List.map Prod.fst) hL.is
     simpa [List.map_map, Function.comp_def] using this
   rw [h2] at h1
   exact (List.pairwise_map.1 h1).imp (fun hne e => hne (by rw [e]))
theorem Sat.rngFacts {w : World} {l : List HProp} {b r : Nat} {f : Int → Option Loc} {S : List (Int × Loc)} {cnt : Nat} (hs : Sat w (rngP b r f S cnt :: l)) : (∀ p ∈ S, f p.1 = some p.2) ∧ (S.map Prod.fst).Nodup := by
 obtain ⟨es, clock, since, seen, c0, hr, _⟩ := hs.rngE
 exact hr.facts
section
variable {P : Program} {t kt et : TypeId}
theorem run_rangeM {w : World} {l : List HProp} {b : Nat} {f : Int → Option Loc} (hs : Sat w (mapP b f :: l)) (ht : P.underlying t = some (.map kt et)) :
   ∃ w' cnt, (Instr.range t (.map (some b))).run P w = .ok (.pointer (some ⟨w.heap.size, 0, none⟩)) w' ∧ Sat w' (rngP b w.heap.size f [] cnt :: l) ∧ Kp w w' ∧ w'.heap.size = w.heap.size + 1 := by
 obtain ⟨es, clock, hr, ho⟩ := hs.mapE
 refine ⟨_, _, run_range_map w t kt et b es clock ht ho.get, Sat.rngI ⟨hr, hr.st.1, Nat.le_refl _, Nat.le_refl _, ⟨[], by simp, by simp, by simp, by simp⟩, rfl⟩ ((ho.alloc _).swap), (Kp.refl w).alloc _, by simp⟩
theorem Sat.setAt {w : World} {b r : Nat} {o o1 o' : Obj} {l : List HProp} (hs : Sat w (own b o1 :: own r o :: l)) : Sat (ChangeMaps.setBlock w r o') (own b o1 :: own r o' :: l) := by
 have h := hs.swap.setBlock (o' := o')
 exact h.1.swap
theorem run_nextM {w : World} {l : List HProp} {b r : Nat} {f : Int → Option Loc} {S : List (Int × Loc)} {cnt : Nat} (hs : Sat w (rngP b r f S cnt :: l)) (ty : TypeId) :
   ((∀ k s, f k = some s → (k, s) ∈ S) ∧ (Instr.next (.pointer (some ⟨r, 0, none⟩)) false ty).run P w = .ok (.tuple #[.bool false]) w) ∨
   ∃ k s w' c', f k = some s ∧ k ∉ S.map Prod.fst ∧ c' < cnt ∧ Sat w' (rngP b r f (S ++ [(k, s)]) c' :: l) ∧ Kp w w' ∧ (Instr.next (.pointer (some ⟨r, 0, none⟩)) false ty).run P w = .ok (.tuple #[.bool true, .int .i64 k, vL (some s)]) w' ∧
     (Instr.entry (.pointer (some ⟨r, 0, none⟩))).run P w' = .ok (.tuple #[.int .i64 k, vL (some s)]) w' := by
 obtain ⟨es, clock, since, seen, c0, hr, ho⟩ := hs.rngE
 obtain ⟨L, hL⟩ := hr.hd
 have hmap : ∀ x ∈ L, ∃ k s, x.key = .int .i64 k ∧ x.val = vL (some s) ∧ f k = some s ∧ (k, s) ∈ S := by
   intro x hx
   have h1 : (x.key, x.val) ∈ L.map (fun x => (x.key, x.val)) := List.mem_map.2 ⟨x, hx, rfl⟩
   rw [hL.is] at h1
   obtain ⟨p, hp, e⟩ := List.mem_map.1 h1
   simp only [Prod.mk.injEq] at e
   exact ⟨p.1, p.2, e.1.symm, e.2.symm, hr.facts.1 p hp, hp⟩
 rcases run_next_at (P := P) w ty r b since c0 seen es clock (ho.pull 1).get ho.get hr.old hr.le with ⟨h0, hrun⟩ | ⟨e, he, w1, hw1, hrun⟩
 · left
   refine ⟨fun k s hf => ?_, hrun⟩
   obtain ⟨x, hx, hk⟩ := hr.rd.all k s hf
   have hseen : seen.contains x.born = true := by
     cases hc : seen.contains x.born with
     | true => rfl
     | false =>
       have : x ∈ leftOf es seen := by
         unfold leftOf
         exact Array.mem_filter.2 ⟨Array.mem_toList_iff.1 hx, by rw [hc]; rfl⟩
       have := Array.size_pos_of_mem this
       omega
   have hb : x.born ∈ L.map (·.born) := by
     rw [← hL.born]
     simpa using hseen
   obtain ⟨y, hy, hyb⟩ := List.mem_map.1 hb
   have hxy : y = x := by
     have hym := hL.mem y hy
     obtain ⟨i, hi⟩ := List.getElem?_of_mem hym
     obtain ⟨j, hj⟩ := List.getElem?_of_mem hx
     obtain rfl := nodup_idx hr.rd.st.2.1 (i := i) (j := j) (a := x.born) (by rw [List.getElem?_map, hi, ← hyb]; rfl) (by rw [List.getElem?_map, hj]; rfl)
     rw [hi] at hj
     exact Option.some.inj hj
   subst hxy
   obtain ⟨k', s', e1, e2, e3, e4⟩ := hmap y hy
   rw [hk] at e1
   cases e1
   rw [hf] at e3
   cases e3
   exact e4
 · right
   obtain ⟨hem, hnot⟩ := mem_left he
   obtain ⟨k, s, e1, e2, e3⟩ := hr.rd.mem e hem
   have hknot : k ∉ S.map Prod.fst := by
     intro hk
     obtain ⟨p, hp, hpk⟩ := List.mem_map.1 hk
     have h1 : (Value.int .i64 p.1, vL (some p.2)) ∈ S.map (fun p => (Value.int .i64 p.1, vL (some p.2))) := List.mem_map.2 ⟨p, hp, rfl⟩
     rw [← hL.is] at h1
     obtain ⟨x, hx, ex⟩ := List.mem_map.1 h1
     simp only [Prod.mk.injEq] at ex
     have : x = e := other_born hr.rd.st (hL.mem x hx) hem (by rw [ex.1, hpk, e1])
     subst this
     have hb : x.born ∈ seen.toList := by rw [hL.born]; exact List.mem_map.2 ⟨x, hx, rfl⟩
     rw [Array.mem_toList_iff] at hb
     have := Array.contains_iff_mem.2 hb
     rw [hnot] at this
     cases this
   have hw1s : Sat w1 (own b (.map es clock) :: own r (.mapIter (some b) since seen c0) :: l) ∧ Kp w w1 := by
     rcases hw1 with rfl | rfl
     · exact ⟨ho, Kp.refl _⟩
     · exact ⟨ho.drew, (Kp.refl _).drew⟩
   have hrng : Rng es clock since (seen.push e.born) clock f (S ++ [(k, s)]) (leftOf es (seen.push e.born)).size := by
     refine ⟨hr.rd, hr.old, hr.sc, hr.sc, ⟨L ++ [e], ?_, ?_, ?_, ?_⟩, rfl⟩
     · intro x hx
       rcases List.mem_append.1 hx with hx | hx
       · exact hL.mem x hx
       · rw [List.mem_singleton.1 hx]; exact hem
     · simp [hL.born]
     · rw [List.map_append, List.map_append, hL.is]
       simp [e1, e3]
     · rw [List.map_append]
       refine List.nodup_append.2 ⟨hL.nodup, by simp, ?_⟩
       intro a ha c hc
       rw [List.map_singleton, List.mem_singleton] at hc
       subst hc
       obtain ⟨x, hx, rfl⟩ := List.mem_map.1 ha
       obtain ⟨k', s', f1, f2, f3, f4⟩ := hmap x hx
       rw [f1, e1]
       intro h
       cases h
       exact hknot (List.mem_map.2 ⟨_, f4, rfl⟩)
   refine ⟨k, s, _, _, e2, hknot, by rw [← hr.left]; exact left_shrinks es seen e he, Sat.rngI hrng hw1s.1.setAt, hw1s.2.trans ⟨rfl, rfl, rfl, by simp [ChangeMaps.setBlock]⟩, by rw [hrun, e1, e3], ?_⟩
   have h2 := (Sat.setAt (o' := .mapIter (some b) since (seen.push e.born) clock) hw1s.1)
   rw [run_entry_at _ r b since seen es clock e (h2.pull 1).get h2.get hem hr.rd.st.2.1, e1, e3]
variable {ops : Array Oper} {rest : List Oper} {o : Oper} {a : Act} {Q : Exit → Act → World → Prop}
theorem wpList_rangeM (w : World) (hg : o.guard = none) (m : Operand) (t : TypeId) (hop : o.op = Op.range t m) (ht : P.underlying t = some (.map kt et)) {l : List HProp} {b : Nat} {f : Int → Option Loc} (hm : a.eval m = .map (some b)) (hs : Sat w (mapP b f :: l))
   (hK : ∀ w' cnt, Sat w' (rngP b w.heap.size f [] cnt :: l) → Kp w w' → w'.heap.size = w.heap.size + 1 → wpList P ops Q rest (a.put o.dst (.pointer (some ⟨w.heap.size, 0, none⟩))) w') :
   wpList P ops Q (o :: rest) a w := by
 refine wpList_plain hg fun K' hK' => ?_
 obtain ⟨w', cnt, hrun, r1, r2, r3⟩ := run_rangeM hs ht
 unfold Oper.wp
 simp [execOp, hop, hm, hrun, Result.andThen]
 exact hK' _ _ (hK w' cnt r1 r2 r3)
theorem wpList_nextM (w : World) (hg : o.guard = none) (it : Operand) (hop : o.op = Op.next it false) {l : List HProp} {b r : Nat} {f : Int → Option Loc} {S : List (Int × Loc)} {cnt : Nat} (hit : a.eval it = .pointer (some ⟨r, 0, none⟩)) (hs : Sat w (rngP b r f S cnt :: l))
   (hDone : (∀ k s, f k = some s → (k, s) ∈ S) → wpList P ops Q rest (a.put o.dst (.tuple #[.bool false])) w)
   (hMore : ∀ k s w' c', f k = some s → k ∉ S.map Prod.fst → c' < cnt → Sat w' (rngP b r f (S ++ [(k, s)]) c' :: l) → Kp w w' → (Instr.entry (.pointer (some ⟨r, 0, none⟩))).run P w' = .ok (.tuple #[.int .i64 k, vL (some s)]) w' →
     wpList P ops Q rest (a.put o.dst (.tuple #[.bool true, .int .i64 k, vL (some s)])) w') :
   wpList P ops Q (o :: rest) a w := by
 refine wpList_plain hg fun K' hK' => ?_
 unfold Oper.wp
 rcases run_nextM (P := P) hs o.type with ⟨h0, hrun⟩ | ⟨k, s, w', c', h1, h2, hc, h3, h4, hrun, hen⟩
 · simp [execOp, hop, hit, hrun, Result.andThen]
   exact hK' _ _ (hDone h0)
 · simp [execOp, hop, hit, hrun, Result.andThen]
   exact hK' _ _ (hMore k s w' c' h1 h2 hc h3 h4 hen)
theorem wpList_storeM (w : World) (hg : o.guard = none) (m x v : Operand) (t : TypeId) (hop : o.op = Op.mapUpdate t m x v) (ht : P.underlying t = some (.map kt et)) (hk : P.underlying kt = some (.int .i64)) {l : List HProp} {b : Nat} {f : Int → Option Loc}
   (hm : a.eval m = .map (some b)) (hs : Sat w (mapP b f :: l)) (k : Int) (s : Loc) (hx : a.eval x = .int .i64 k) (hv : a.eval v = vL (some s))
   (hK : ∀ w', Sat w' (mapP b (upd f k (some s)) :: l) → Kp w w' → wpList P ops Q rest (a.put o.dst undef) w') :
   wpList P ops Q (o :: rest) a w := by
 refine wpList_plain hg fun K' hK' => ?_
 obtain ⟨w', hrun, r1, r2⟩ := run_store hs ht hk k s
 unfold Oper.wp
 simp [execOp, hop, hm, hx, hv, hrun, Result.andThen]
 exact hK' _ _ (hK w' r1 r2)
theorem wpList_deleteM (w : World) (hg : o.guard = none) (m x : Operand) (t kt : TypeId) (hop : o.op = Op.call { callee := Callee.builtin Builtin.delete, args := #[m, x], argTypes := #[t, kt] }) (ht : P.underlying t = some (.map kt et)) (hk : P.underlying kt = some (.int .i64)) {l : List HProp} {b : Nat} {f : Int → Option Loc}
   (hm : a.eval m = .map (some b)) (hs : Sat w (mapP b f :: l)) (k : Int) (hx : a.eval x = .int .i64 k)
   (hK : ∀ w', Sat w' (mapP b (upd f k none) :: l) → Kp w w' → wpList P ops Q rest (a.put o.dst (.tuple #[])) w') :
   wpList P ops Q (o :: rest) a w := by
 refine wpList_plain hg fun K' hK' => ?_
 obtain ⟨w', hrun, r1, r2⟩ := run_delete hs ht hk k o.type
 unfold Oper.wp
 simp [execOp, hop, resolve, invoke, builtin, hm, hx, hrun, Result.andThen]
 exact hK' _ _ (hK w' r1 r2)
end
/-! ### trees, with no program in sight -/
def known (f : Int → Option Loc) (n : Int) : Bool := (f n).isSome || n == 0 || n == 1
/-- From b one leaves the tree behind k steps up. -/
inductive Reach (f : Int → Option Loc) : Int → Nat → Prop
 | zero {b : Int} : f b = none → Reach f b 0
 | succ {b : Int} {l : Loc} {k : Nat} : f b = some l → Reach f l.up k → Reach f b (k + 1)
/-- a is b, or above it. -/
inductive Anc (f : Int → Option Loc) (a : Int) : Int → Prop
 | here : Anc f a a
 | up {b : Int} {l : Loc} : f b = some l → Anc f a l.up → Anc f a b
theorem Reach.uniq {f : Int → Option Loc} {b : Int} {k k' : Nat} (h : Reach f b k) (h' : Reach f b k') : k = k' := by
 induction h generalizing k' with
 | zero e => cases h' with
   | zero => rfl
   | succ e' _ => rw [e] at e'; cases e'
 | succ e _ ih => cases h' with
   | zero e' => rw [e] at e'; cases e'
   | succ e' r =>
     rw [e] at e'
     cases e'
     rw [ih r]
noncomputable def height (f : Int → Option Loc) (b : Int) : Nat := by
 classical
 exact if h : ∃ k, Reach f b k then Classical.choose h else 0
theorem Reach.height {f : Int → Option Loc} {b : Int} {k : Nat} (h : Reach f b k) : Go.Proofs.YtddglbjhhnipgaaGreatDoor.height f b = k := by
 have hx : ∃ k, Reach f b k := ⟨k, h⟩
 unfold Go.Proofs.YtddglbjhhnipgaaGreatDoor.height
 rw [dif_pos hx]
 exact (Classical.choose_spec hx).uniq h
theorem Anc.stop {f : Int → Option Loc} {a b : Int} (h : Anc f a b) (hb : f b = none) : a = b := by
 cases h with
 | here => rfl
 | up e _ => rw [hb] at e; cases e
theorem Anc.step {f : Int → Option Loc} {a b : Int} {l : Loc} (hb : f b = some l) (hne : a ≠ b) : Anc f a b ↔ Anc f a l.up := by
 constructor
 · intro h
   cases h with
   | here => exact absurd rfl hne
   | up e h => rw [hb] at e; cases e; exact h
 · exact fun h => .up hb h
theorem Anc.stops {f : Int → Option Loc} {a b : Int} (hb : f b = none) (hne : a ≠ b) : ¬ Anc f a b := fun h => hne (h.stop hb)
/-- No node is above itself. -/
def Acyc (f : Int → Option Loc) : Prop := ∀ b, ∃ k, Reach f b k
theorem reach_away {f : Int → Option Loc} {n : Int} {s : Option Loc} {b : Int} {k : Nat} (h : Reach f b k) (hn : ¬ Anc f n b) : Reach (upd f n s) b k := by
 induction h with
 | zero e => exact .zero (by rw [upd_other (fun hb => hn (by rw [hb]; exact .here))]; exact e)
 | succ e _ ih => exact .succ (by rw [upd_other (fun hb => hn (by rw [hb]; exact .here))]; exact e) (ih fun h => hn (.up e h))
theorem Acyc.put {f : Int → Option Loc} (h : Acyc f) {n : Int} {s : Loc} (hn : ¬ Anc f n s.up) : Acyc (upd f n (some s)) := by
 obtain ⟨k0, h0⟩ := h s.up
 have h1 := reach_away (s := some s) h0 hn
 intro b
 obtain ⟨k, hk⟩ := h b
 induction hk with
 | @zero b e =>
   by_cases hb : b = n
   · exact ⟨_, .succ (by rw [hb, upd_same]) h1⟩
   · exact ⟨0, .zero (by rw [upd_other hb]; exact e)⟩
 | @succ b l k e _ ih =>
   by_cases hb : b = n
   · exact ⟨_, .succ (by rw [hb, upd_same]) h1⟩
   · obtain ⟨k', hk'⟩ := ih
     exact ⟨_, .succ (by rw [upd_other hb]; exact e) hk'⟩
theorem acyc_empty : Acyc (fun _ => none) := fun b => ⟨0, .zero rfl⟩
theorem upd_self (f : Int → Option Loc) (k : Int) : upd f k (f k) = f := by
 funext j
 by_cases h : j = k
 · subst h; rw [upd_same]
 · rw [upd_other h]
/-- All nodes are among the few. -/
def Few (f : Int → Option Loc) : Prop := ∀ k l, f k = some l → 256 ≤ k ∧ k < 264
theorem Few.put {f : Int → Option Loc} (h : Few f) {n : Int} {s : Loc} (h0 : 256 ≤ n) (h1 : n < 264) : Few (upd f n (some s)) := fun k l hk => by
 by_cases hkn : k = n
 · subst hkn; exact ⟨h0, h1⟩
 · rw [upd_other hkn] at hk; exact h k l hk
theorem few_empty : Few (fun _ => none) := fun _ _ h => by cases h
theorem Few.none {f : Int → Option Loc} (h : Few f) {k : Int} (hk : k < 256) : f k = .none := by
 cases hf : f k with
 | none => rfl
 | some l => have := h k l hf; omega
theorem nodup_le : ∀ (n : Nat) (a : Int) (l : List Int), l.Nodup → (∀ x ∈ l, a ≤ x ∧ x < a + n) → l.length ≤ n
 | 0, a, l, _, h => by
   cases l with
   | nil => simp
   | cons x l => have := h x (List.mem_cons_self ..); omega
 | n + 1, a, l, hn, h => by
   by_cases hm : (a + n) ∈ l
   · obtain ⟨l1, l2, rfl⟩ := List.append_of_mem hm
     have h1 := List.nodup_append.1 hn
     have h2 := List.nodup_cons.1 h1.2.1
     have hlen := nodup_le n a (l1 ++ l2) (List.nodup_append.2 ⟨h1.1, h2.2, fun x hx y hy => h1.2.2 x hx y (List.mem_cons_of_mem _ hy)⟩) (fun x hx => by
       have hx' : x ∈ l1 ++ (a + n) :: l2 := by
         rcases List.mem_append.1 hx with hx | hx
         · exact List.mem_append_left _ hx
         · exact List.mem_append_right _ (List.mem_cons_of_mem _ hx)
       have hr := h x hx'
       have hne : x ≠ a + n := by
         rintro rfl
         rcases List.mem_append.1 hx with hx | hx
         · exact h1.2.2 _ hx _ (List.mem_cons_self ..) rfl
         · exact h2.1 hx
       omega)
     simp only [List.length_append, List.length_cons] at hlen ⊢
     omega
   · have := nodup_le n a l hn (fun x hx => by
       have hr := h x hx
       have hne : x ≠ a + n := fun e => hm (e ▸ hx)
       omega)
     omega
theorem Few.length {f : Int → Option Loc} (h : Few f) {S : List (Int × Loc)} (hS : ∀ p ∈ S, f p.1 = some p.2) (hn : (S.map Prod.fst).Nodup) : S.length ≤ 8 := by
 have := nodup_le 8 256 (S.map Prod.fst) hn (fun x hx => by
   obtain ⟨p, hp, rfl⟩ := List.mem_map.1 hx
   have := h _ _ (hS p hp)
   omega)
 simpa using this
/-! ### insertion sort, with no program in sight -/
section
variable {α : Type} (lt : α → α → Bool)
/-- x laid into a row that is held backwards: the greatest first. -/
def insR (x : α) : List α → List α
 | [] => [x]
 | y :: ys => if lt x y then y :: insR x ys else x :: y :: ys
def isortR (l : List α) : List α := l.foldl (fun r x => insR lt x r) []
/-- What insertion sort makes of a list. -/
def isort (l : List α) : List α := (isortR lt l).reverse
theorem insR_perm (x : α) : ∀ l, (insR lt x l).Perm (x :: l)
 | [] => List.Perm.refl _
 | y :: ys => by
   unfold insR
   split
   · exact ((insR_perm x ys).cons y).trans (List.Perm.swap x y ys)
   · exact List.Perm.refl _
theorem insR_len (x : α) (l : List α) : (insR lt x l).length = l.length + 1 := (insR_perm lt x l).length_eq
theorem foldl_perm : ∀ (l r : List α), (l.foldl (fun r x => insR lt x r) r).Perm (r ++ l)
 | [], r => by simp
 | x :: l, r => by
   refine (foldl_perm l (insR lt x r)).trans ?_
   refine ((insR_perm lt x r).append_right l).trans ?_
   exact (List.perm_middle (a := x) (l₁ := r) (l₂ := l)).symm
theorem isort_perm (l : List α) : (isort lt l).Perm l := by
 unfold isort
 refine (List.reverse_perm _).trans ?_
 simpa [isortR] using foldl_perm lt l []
theorem isortR_snoc (l : List α) (x : α) : isortR lt (l ++ [x]) = insR lt x (isortR lt l) := by simp [isortR]
theorem isortR_len (l : List α) : (isortR lt l).length = l.length := by
 have := (isort_perm lt l).length_eq
 simpa [isort] using this
variable {lt}
/-- The order is a total one, and strict. -/
structure Strict (lt : α → α → Bool) : Prop where
 irr : ∀ a, lt a a = false
 trans : ∀ a b c, lt a b = true → lt b c = true → lt a c = true
 tri : ∀ a b, lt a b = true ∨ a = b ∨ lt b a = true
theorem Strict.asymm (h : Strict lt) {a b : α} (e : lt a b = true) : lt b a = false := by
 cases hb : lt b a with
 | false => rfl
 | true => have := h.trans a b a e hb; rw [h.irr] at this; cases this
/-- Backwards sorted: none behind is greater. -/
def SortedR (lt : α → α → Bool) (l : List α) : Prop := l.Pairwise fun a b => lt a b = false
theorem insR_sorted (h : Strict lt) (x : α) : ∀ l, SortedR lt l → SortedR lt (insR lt x l)
 | [], _ => by simp [SortedR, insR]
 | y :: ys, hs => by
   have hs' := List.pairwise_cons.1 hs
   unfold insR
   split
   · next hxy =>
     refine List.pairwise_cons.2 ⟨fun z hz => ?_, insR_sorted h x ys hs'.2⟩
     have := (insR_perm lt x ys).mem_iff.1 hz
     rcases List.mem_cons.1 this with rfl | hz
     · exact h.asymm hxy
     · exact hs'.1 z hz
   · next hxy =>
     have hxy' : lt x y = false := by simpa using hxy
     refine List.pairwise_cons.2 ⟨fun z hz => ?_, hs⟩
     rcases List.mem_cons.1 hz with rfl | hz
     · exact hxy'
     · cases hxz : lt x z with
       | false => rfl
       | true =>
         have hyz := hs'.1 z hz
         rcases h.tri x y with e | e | e
         · rw [hxy'] at e; cases e
         · subst e; rw [hyz] at hxz; cases hxz
         · have := h.trans _ _ _ e hxz; rw [hyz] at this; cases this
theorem isortR_sorted (h : Strict lt) (l : List α) : SortedR lt (isortR lt l) := by
 have : ∀ (l r : List α), SortedR lt r → SortedR lt (l.foldl (fun r x => insR lt x r) r) := by
   intro l
   induction l with
   | nil => exact fun r hr => hr
   | cons x l ih => exact fun r hr => ih _ (insR_sorted h x r hr)
 exact this l [] List.Pairwise.nil
/-- Of two lists of the same things one comes out. -/
theorem sorted_unique (h : Strict lt) : ∀ {l l' : List α}, SortedR lt l → SortedR lt l' → l.Perm l' → l = l'
 | [], l', _, _, hp => (List.Perm.nil_eq hp)
 | a :: l, [], _, _, hp => by have := hp.length_eq; simp at this
 | a :: l, b :: l', hs, hs', hp => by
   have h1 := List.pairwise_cons.1 hs
   have h2 := List.pairwise_cons.1 hs'
   have hab : a = b := by
     have ha : a ∈ b :: l' := hp.mem_iff.1 (List.mem_cons_self ..)
     have hb : b ∈ a :: l := hp.mem_iff.2 (List.mem_cons_self ..)
     rcases List.mem_cons.1 ha with e | ha
     · exact e
     rcases List.mem_cons.1 hb with e | hb
     · exact e.symm
     have e1 := h1.1 b hb
     have e2 := h2.1 a ha
     rcases h.tri a b with e | e | e
     · rw [e1] at e; cases e
     · exact e
     · rw [e2] at e; cases e
   subst hab
   rw [sorted_unique h h1.2 h2.2 ((List.perm_cons a).1 hp)]
theorem isort_eq_of_perm (h : Strict lt) {l l' : List α} (hp : l.Perm l') : isort lt l = isort lt l' := by
 unfold isort
 rw [sorted_unique h (isortR_sorted h l) (isortR_sorted h l')]
 have h1 := (List.reverse_perm (isortR lt l)).symm.trans ((isort_perm lt l).trans (hp.trans (isort_perm lt l').symm))
 exact h1.trans (List.reverse_perm (isortR lt l'))
/-! a swap of neighbours, as two stores -/
theorem swap_at (R B : List α) (y x : α) : ((R.reverse ++ y :: x :: B).set (R.length + 1) y).set R.length x = R.reverse ++ x :: y :: B := by
 rw [List.set_append_right _ _ (by simp), List.set_append_right _ _ (by simp)]
 simp
theorem get_at (R B : List α) (x : α) : (R.reverse ++ x :: B)[R.length]? = some x := by
 rw [List.getElem?_append_right (by simp)]
 simp
theorem get_at' (R B : List α) (y x : α) : (R.reverse ++ y :: x :: B)[R.length + 1]? = some x := by
 rw [List.getElem?_append_right (by simp)]
 simp
end
end Go.Proofs.YtddglbjhhnipgaaGreatDoor

import Derived.Test.YtbnipieokpeadaaDoorSl
import Derived.Maps.Keyed
import Derived.Laws.IdiomRangeMap
import Derived.Maps.RangeWalk
import Derived.Maps.OwnSet
namespace Go.Proofs.YtbnipieokpeadaaDoor
open Go Go.RowKit Go.MapKept
set_option linter.unusedVariables false
set_option linter.unusedSimpArgs false

/-! ### a map from ints to places in a tree -/

/-- Where a node is: below which one, by which name. -/
structure Loc where
  up : Int
  name : ByteArray
/-- The spot of a node, as a value. -/
def vL : Option Loc → Value
  | some l => .agg #[.bool true, .int .i64 l.up, .string l.name]
  | none => .agg #[.bool false, .int .i64 0, .string ⟨#[]⟩]

structure Reads (es : Array MapEntry) (clock : Nat) (f : Int → Option Loc) : Prop where
  st : Stamped es clock
  mem : ∀ x ∈ es.toList, ∃ k l, x.key = .int .i64 k ∧ f k = some l ∧ x.val = vL (some l)
  all : ∀ k l, f k = some l → ∃ x ∈ es.toList, x.key = .int .i64 k

def mapP (b : Nat) (f : Int → Option Loc) : HProp := ex fun es => ex fun clock => all [lift (Reads es clock f), own b (.map es clock)]
theorem Sat.mapE {w : World} {l : List HProp} {b : Nat} {f : Int → Option Loc} (hs : Sat w (mapP b f :: l)) : ∃ es clock, Reads es clock f ∧ Sat w (own b (.map es clock) :: l) := by
  obtain ⟨es, h⟩ := hs.exE
  obtain ⟨clock, h⟩ := h.exE
  exact ⟨es, clock, h.allE.liftE⟩
theorem Sat.mapI {w : World} {l : List HProp} {b : Nat} {f : Int → Option Loc} {es : Array MapEntry} {clock : Nat} (hr : Reads es clock f) (hs : Sat w (own b (.map es clock) :: l)) : Sat w (mapP b f :: l) :=
  Sat.exI es (Sat.exI clock (Sat.allI (hs.liftI hr)))

theorem nodup_idx {α : Type} {l : List α} (h : l.Nodup) {i j : Nat} {a : α} (hi : l[i]? = some a) (hj : l[j]? = some a) : i = j := by
  obtain ⟨hi1, hi2⟩ := List.getElem?_eq_some_iff.1 hi
  obtain ⟨hj1, hj2⟩ := List.getElem?_eq_some_iff.1 hj
  have hp := List.pairwise_iff_getElem.1 h
  rcases Nat.lt_trichotomy i j with hlt | heq | hgt
  · exact absurd (hi2.trans hj2.symm) (hp i j hi1 hj1 hlt)
  · exact heq
  · exact absurd (hj2.trans hi2.symm) (hp j i hj1 hi1 hgt)
theorem key_idx {es : Array MapEntry} {clock : Nat} (h : Stamped es clock) {i j : Nat} {x y : MapEntry} (hi : es.toList[i]? = some x) (hj : es.toList[j]? = some y) (e : x.key = y.key) : i = j :=
  nodup_idx h.2.2 (i := i) (j := j) (a := x.key) (by rw [List.getElem?_map, hi]; rfl) (by rw [List.getElem?_map, hj, e]; rfl)

theorem reads_keys {es : Array MapEntry} {clock : Nat} {f : Int → Option Loc} (h : Reads es clock f) : ∀ x ∈ es.toList, IsKey (.int .i64) x.key := fun x hx => by
  obtain ⟨k, l, e, _⟩ := h.mem x hx
  rw [e]; rfl

theorem reads_find {es : Array MapEntry} {clock : Nat} {f : Int → Option Loc} (h : Reads es clock f) (k : Int) :
    (Instr.findNow (.int .i64) (.int .i64 k) es.toList 0 = some none ∧ f k = none ∧ ∀ x ∈ es.toList, x.key ≠ .int .i64 k) ∨ ∃ j e l, Instr.findNow (.int .i64) (.int .i64 k) es.toList 0 = some (some (j, e.val)) ∧ es.toList[j]? = some e ∧ e.key = .int .i64 k ∧ f k = some l ∧ e.val = vL (some l) := by
  rcases findNow_spec (k := .int .i64 k) (d := .int .i64) rfl es.toList 0 (reads_keys h) with ⟨h1, h2⟩ | ⟨j, e, h1, h2, h3⟩
  · refine .inl ⟨h1, ?_, h2⟩
    cases hf : f k with
    | none => rfl
    | some l =>
      obtain ⟨x, hx, e⟩ := h.all k l hf
      exact absurd e (h2 x hx)
  · obtain ⟨k', l, e1, e2, e3⟩ := h.mem e (List.mem_of_getElem? h2)
    rw [h3] at e1
    cases e1
    exact .inr ⟨j, e, l, by rw [h1, Nat.zero_add], h2, h3, e2, e3⟩

section
variable {P : Program} {t kt et : TypeId}

theorem run_look {w : World} {l : List HProp} {b : Nat} {f : Int → Option Loc} (hs : Sat w (mapP b f :: l)) (ht : P.underlying t = some (.map kt et)) (hk : P.underlying kt = some (.int .i64)) (hz : ∀ w, (zeroValue et).run P w = .ok (vL none) w) (k : Int) :
    (Instr.lookup t (.map (some b)) (.int .i64 k) false).run P w = .ok (vL (f k)) w ∧ (Instr.lookup t (.map (some b)) (.int .i64 k) true).run P w = .ok (.tuple #[vL (f k), .bool (f k).isSome]) w := by
  obtain ⟨es, clock, hr, ho⟩ := hs.mapE
  have hb := ho.get
  rcases reads_find hr k with ⟨h1, h2, _⟩ | ⟨j, e, l', h1, h2, h3, h4, h5⟩
  · rw [h2]
    constructor <;> simp [Instr.lookup, run_underlying ht, MapKept.run_getObj_map hb, MapKept.run_checkKey hk (k := .int .i64 k) rfl, MapKept.run_findKey hk h1, hz, Result.andThen]
  · rw [h4]
    constructor <;> simp [Instr.lookup, run_underlying ht, MapKept.run_getObj_map hb, MapKept.run_checkKey hk (k := .int .i64 k) rfl, MapKept.run_findKey hk h1, h5, Result.andThen]

theorem Sat.setBlock {w : World} {b : Nat} {o o' : Obj} {l : List HProp} (hs : Sat w (own b o :: l)) : Sat { w with heap := w.heap.setIfInBounds b o' } (own b o' :: l) ∧ Kp w { w with heap := w.heap.setIfInBounds b o' } :=
  ⟨hs.turn (by simp [hs.lt]) (fun k _ hk => by simp [Ne.symm hk]), ⟨rfl, rfl, rfl, by simp⟩⟩

def upd (f : Int → Option Loc) (k : Int) (v : Option Loc) : Int → Option Loc := fun j => if j = k then v else f j
theorem upd_same (f : Int → Option Loc) (k : Int) (v : Option Loc) : upd f k v k = v := by simp [upd]
theorem upd_other {f : Int → Option Loc} {k j : Int} {v : Option Loc} (h : j ≠ k) : upd f k v j = f j := by simp [upd, h]

theorem other_born {es : Array MapEntry} {clock : Nat} (h : Stamped es clock) {x y : MapEntry} (hx : x ∈ es.toList) (hy : y ∈ es.toList) (e : x.key = y.key) : x = y := by
  obtain ⟨i, hi⟩ := List.getElem?_of_mem hx
  obtain ⟨j, hj⟩ := List.getElem?_of_mem hy
  obtain rfl := key_idx h hi hj e
  rw [hi] at hj
  exact Option.some.inj hj

theorem run_store {w : World} {l : List HProp} {b : Nat} {f : Int → Option Loc} (hs : Sat w (mapP b f :: l)) (ht : P.underlying t = some (.map kt et)) (hk : P.underlying kt = some (.int .i64)) (k : Int) (s : Loc) :
    ∃ w', (Instr.mapUpdate t (.map (some b)) (.int .i64 k) (vL (some s))).run P w = .ok () w' ∧ Sat w' (mapP b (upd f k (some s)) :: l) ∧ Kp w w' := by
  obtain ⟨es, clock, hr, ho⟩ := hs.mapE
  have hb := ho.get
  rcases reads_find hr k with ⟨h1, h2, h3⟩ | ⟨j, e, l', h1, h2, h3, h4, h5⟩
  · have ho2 := ho.setBlock (o' := .map (es.push ⟨.int .i64 k, vL (some s), clock⟩) (clock + 1))
    refine ⟨_, by simp [Instr.mapUpdate, run_underlying ht, MapKept.run_getObj_map hb, MapKept.run_checkKey hk (k := .int .i64 k) rfl, MapKept.run_findKey hk h1, MapKept.run_setObj_map _ hb, Result.andThen], Sat.mapI ⟨stamped_push hr.st h3, ?_, ?_⟩ ho2.1, ho2.2⟩
    · intro x hx
      simp only [Array.toList_push, List.mem_append, List.mem_singleton] at hx
      rcases hx with hx | rfl
      · obtain ⟨k', l', e1, e2, e3⟩ := hr.mem x hx
        refine ⟨k', l', e1, ?_, e3⟩
        rw [upd_other (fun e => h3 x hx (by rw [e1, e]))]
        exact e2
      · exact ⟨k, s, rfl, upd_same _ _ _, rfl⟩
    · intro k' l' hf
      by_cases hkk : k' = k
      · subst hkk
        exact ⟨⟨.int .i64 k', vL (some s), clock⟩, by simp, rfl⟩
      · rw [upd_other hkk] at hf
        obtain ⟨x, hx, e⟩ := hr.all k' l' hf
        exact ⟨x, by simp [hx], e⟩
  · have hj : es[j]? = some e := by simpa using h2
    have hkeyf : ∀ e', es[j]? = some e' → ({ e' with key := .int .i64 k, val := vL (some s) } : MapEntry).key = e'.key := fun e' he' => by rw [hj] at he'; cases he'; exact h3.symm
    have ho2 := ho.setBlock (o' := .map (es.modify j (fun e' => { e' with key := .int .i64 k, val := vL (some s) })) clock)
    have hel : ∀ i : Nat, (es.modify j (fun e' => { e' with key := .int .i64 k, val := vL (some s) })).toList[i]? = if i = j then some { e with key := .int .i64 k, val := vL (some s) } else es.toList[i]? := by
      intro i
      rw [Array.getElem?_toList, Array.getElem?_modify]
      by_cases hij : j = i
      · subst hij
        rw [if_pos rfl, if_pos rfl, hj]; rfl
      · rw [if_neg hij, if_neg (Ne.symm hij), Array.getElem?_toList]
        
    refine ⟨_, by simp [Instr.mapUpdate, run_underlying ht, MapKept.run_getObj_map hb, MapKept.run_checkKey hk (k := .int .i64 k) rfl, MapKept.run_findKey hk h1, hj, h3, MapKept.run_keyThatStays (d := .int .i64) (k := .int .i64 k) rfl, MapKept.run_setObj_map _ hb, Result.andThen], Sat.mapI ⟨stamped_modify hr.st j (fun e' => { e' with key := .int .i64 k, val := vL (some s) }) (fun _ _ => rfl) (fun e' _ he' => hkeyf e' he'), ?_, ?_⟩ ho2.1, ho2.2⟩
    · intro x hx
      obtain ⟨i, hi⟩ := List.getElem?_of_mem hx
      rw [hel] at hi
      split at hi
      · simp only [Option.some.injEq] at hi
        subst hi
        exact ⟨k, s, rfl, upd_same _ _ _, rfl⟩
      · next hij =>
        have hxm := List.mem_of_getElem? hi
        obtain ⟨k', l'', e1, e2, e3⟩ := hr.mem x hxm
        refine ⟨k', l'', e1, ?_, e3⟩
        rw [upd_other]
        · exact e2
        · rintro rfl
          exact hij (key_idx hr.st hi h2 (by rw [e1, h3]))
    · intro k' l'' hf
      by_cases hkk : k' = k
      · subst hkk
        exact ⟨_, List.mem_of_getElem? (by rw [hel, if_pos rfl]), rfl⟩
      · rw [upd_other hkk] at hf
        obtain ⟨x, hx, e1⟩ := hr.all k' l'' hf
        obtain ⟨i, hi⟩ := List.getElem?_of_mem hx
        refine ⟨x, List.mem_of_getElem? (i := i) (by
          rw [hel, if_neg, hi]
          rintro rfl
          rw [h2] at hi
          cases hi
          rw [h3] at e1
          cases e1
          exact hkk rfl), e1⟩

theorem run_delete {w : World} {l : List HProp} {b : Nat} {f : Int → Option Loc} (hs : Sat w (mapP b f :: l)) (ht : P.underlying t = some (.map kt et)) (hk : P.underlying kt = some (.int .i64)) (k : Int) (ty : TypeId) :
    ∃ w', (Builtin.delete_ #[t, kt] ty #[.map (some b), .int .i64 k]).run P w = .ok (.tuple #[]) w' ∧ Sat w' (mapP b (upd f k none) :: l) ∧ Kp w w' := by
  obtain ⟨es, clock, hr, ho⟩ := hs.mapE
  have hb := ho.get
  rcases reads_find hr k with ⟨h1, h2, h3⟩ | ⟨j, e, l', h1, h2, h3, h4, h5⟩
  · have ho2 := ho.setBlock (o' := .map es clock)
    have hfe : upd f k none = f := by
      funext j
      by_cases hj : j = k
      · subst hj; rw [upd_same, h2]
      · rw [upd_other hj]
    refine ⟨_, by simp [Builtin.delete_, run_underlying ht, MapKept.run_getObj_map hb, MapKept.run_checkKey hk (k := .int .i64 k) rfl, MapKept.run_findKey hk h1, MapKept.run_setObj_map _ hb, Result.andThen], Sat.mapI (by rw [hfe]; exact hr) ho2.1, ho2.2⟩
  · have hjs : j < es.size := by have := (List.getElem?_eq_some_iff.1 h2).1; simpa using this
    have hsub : (es.eraseIdxIfInBounds j).toList = es.toList.eraseIdx j := by
      unfold Array.eraseIdxIfInBounds
      rw [dif_pos hjs]
      simp
    have ho2 := ho.setBlock (o' := .map (es.eraseIdxIfInBounds j) clock)
    refine ⟨_, by simp [Builtin.delete_, run_underlying ht, MapKept.run_getObj_map hb, MapKept.run_checkKey hk (k := .int .i64 k) rfl, MapKept.run_findKey hk h1, MapKept.run_setObj_map _ hb, Result.andThen], Sat.mapI ⟨stamped_erase hr.st j, ?_, ?_⟩ ho2.1, ho2.2⟩
    · intro x hx
      rw [hsub] at hx
      obtain ⟨i, hne, hi⟩ := List.mem_eraseIdx_iff_getElem?.1 hx
      have hxm := List.mem_of_getElem? hi
      obtain ⟨k', l'', e1, e2, e3⟩ := hr.mem x hxm
      refine ⟨k', l'', e1, ?_, e3⟩
      rw [upd_other]
      · exact e2
      · rintro rfl
        exact hne (key_idx hr.st hi h2 (by rw [e1, h3]))
    · intro k' l'' hf
      by_cases hkk : k' = k
      · subst hkk
        rw [upd_same] at hf
        cases hf
      · rw [upd_other hkk] at hf
        obtain ⟨x, hx, e1⟩ := hr.all k' l'' hf
        obtain ⟨i, hi⟩ := List.getElem?_of_mem hx
        refine ⟨x, ?_, e1⟩
        rw [hsub]
        refine List.mem_eraseIdx_iff_getElem?.2 ⟨i, ?_, hi⟩
        rintro rfl
        rw [h2] at hi
        cases hi
        rw [h3] at e1
        cases e1
        exact hkk rfl
end

end Go.Proofs.YtbnipieokpeadaaDoor

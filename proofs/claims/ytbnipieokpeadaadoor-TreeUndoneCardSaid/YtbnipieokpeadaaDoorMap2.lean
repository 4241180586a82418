import Derived.Test.YtbnipieokpeadaaDoorMap
namespace Go.Proofs.YtbnipieokpeadaaDoor
open Go Go.RowKit Go.MapKept
set_option linter.unusedVariables false
set_option linter.unusedSimpArgs false

/-! ### ranging over such a map -/

/-- What an iterator has handed out, in order. -/
structure Handed (es : Array MapEntry) (seen : Array Nat) (S : List (Int × Loc)) (L : List MapEntry) : Prop where
  mem : ∀ x ∈ L, x ∈ es.toList
  born : seen.toList = L.map (·.born)
  is : L.map (fun x => (x.key, x.val)) = S.map (fun p => (Value.int .i64 p.1, vL (some p.2)))
  nodup : (L.map (·.key)).Nodup

structure Rng (es : Array MapEntry) (clock since : Nat) (seen : Array Nat) (c0 : Nat) (f : Int → Option Loc) (S : List (Int × Loc)) (cnt : Nat) : Prop where
  rd : Reads es clock f
  old : ∀ x ∈ es.toList, x.born < since
  le : since ≤ c0
  sc : since ≤ clock
  hd : ∃ L, Handed es seen S L
  left : (leftOf es seen).size = cnt

/-- A map at b that is ranged over by an iterator at r, which has handed out S. -/
def rngP (b r : Nat) (f : Int → Option Loc) (S : List (Int × Loc)) (cnt : Nat) : HProp :=
  ex fun es => ex fun clock => ex fun since => ex fun seen => ex fun c0 => all [lift (Rng es clock since seen c0 f S cnt), own b (.map es clock), own r (.mapIter (some b) since seen c0)]
theorem Sat.rngE {w : World} {l : List HProp} {b r : Nat} {f : Int → Option Loc} {S : List (Int × Loc)} {cnt : Nat} (hs : Sat w (rngP b r f S cnt :: l)) :
    ∃ es clock since seen c0, Rng es clock since seen c0 f S cnt ∧ Sat w (own b (.map es clock) :: own r (.mapIter (some b) since seen c0) :: l) := by
  obtain ⟨es, h⟩ := hs.exE
  obtain ⟨clock, h⟩ := h.exE
  obtain ⟨since, h⟩ := h.exE
  obtain ⟨seen, h⟩ := h.exE
  obtain ⟨c0, h⟩ := h.exE
  exact ⟨es, clock, since, seen, c0, h.allE.liftE⟩
theorem Sat.rngI {w : World} {l : List HProp} {b r : Nat} {f : Int → Option Loc} {S : List (Int × Loc)} {cnt : Nat} {es : Array MapEntry} {clock since : Nat} {seen : Array Nat} {c0 : Nat} (hr : Rng es clock since seen c0 f S cnt)
    (hs : Sat w (own b (.map es clock) :: own r (.mapIter (some b) since seen c0) :: l)) : Sat w (rngP b r f S cnt :: l) :=
  Sat.exI es (Sat.exI clock (Sat.exI since (Sat.exI seen (Sat.exI c0 (Sat.allI (hs.liftI hr))))))
/-- The loop is over: the map stays. -/
theorem Sat.rngDone {w : World} {l : List HProp} {b r : Nat} {f : Int → Option Loc} {S : List (Int × Loc)} {cnt : Nat} (hs : Sat w (rngP b r f S cnt :: l)) : Sat w (mapP b f :: l) := by
  obtain ⟨es, clock, since, seen, c0, hr, ho⟩ := hs.rngE
  exact Sat.mapI hr.rd (ho.pull 1).tail

theorem Sat.rngLeft {w : World} {l : List HProp} {b r : Nat} {f : Int → Option Loc} {S : List (Int × Loc)} {cnt : Nat} (hs : Sat w (rngP b r f S cnt :: l)) : w.rangeLeft b r = cnt := by
  obtain ⟨es, clock, since, seen, c0, hr, ho⟩ := hs.rngE
  unfold World.rangeLeft
  rw [ho.get, (ho.pull 1).get]
  exact hr.left

theorem Rng.facts {es : Array MapEntry} {clock since : Nat} {seen : Array Nat} {c0 : Nat} {f : Int → Option Loc} {S : List (Int × Loc)} {cnt : Nat} (h : Rng es clock since seen c0 f S cnt) : (∀ p ∈ S, f p.1 = some p.2) ∧ (S.map Prod.fst).Nodup := by
  obtain ⟨L, hL⟩ := h.hd
  constructor
  · intro p hp
    have h1 : (Value.int .i64 p.1, vL (some p.2)) ∈ S.map (fun p => (Value.int .i64 p.1, vL (some p.2))) := List.mem_map.2 ⟨p, hp, rfl⟩
    rw [← hL.is] at h1
    obtain ⟨x, hx, e⟩ := List.mem_map.1 h1
    obtain ⟨k, l, e1, e2, e3⟩ := h.rd.mem x (hL.mem x hx)
    simp only [Prod.mk.injEq] at e
    rw [e1, e3] at e
    obtain ⟨a, b⟩ := e
    cases a
    have hl : l = p.2 := by
      simp only [vL, Value.agg.injEq] at b
      have b0 := congrArg (·[1]?) b
      have b1 := congrArg (·[2]?) b
      simp at b0 b1
      cases l; cases hp2 : p.2; simp_all
    rw [e2, hl]
  · have h1 := hL.nodup
    have h2 : L.map (·.key) = (S.map Prod.fst).map (Value.int .i64) := by
      have := congrArg (List.map Prod.fst) hL.is
      simpa [List.map_map, Function.comp_def] using this
    rw [h2] at h1
    exact (List.pairwise_map.1 h1).imp (fun hne e => hne (by rw [e]))
theorem Sat.rngFacts {w : World} {l : List HProp} {b r : Nat} {f : Int → Option Loc} {S : List (Int × Loc)} {cnt : Nat} (hs : Sat w (rngP b r f S cnt :: l)) : (∀ p ∈ S, f p.1 = some p.2) ∧ (S.map Prod.fst).Nodup := by
  obtain ⟨es, clock, since, seen, c0, hr, _⟩ := hs.rngE
  exact hr.facts

section
variable {P : Program} {t kt et : TypeId}

theorem run_rangeM {w : World} {l : List HProp} {b : Nat} {f : Int → Option Loc} (hs : Sat w (mapP b f :: l)) (ht : P.underlying t = some (.map kt et)) :
    ∃ w' cnt, (Instr.range t (.map (some b))).run P w = .ok (.pointer (some ⟨w.heap.size, 0, none⟩)) w' ∧ Sat w' (rngP b w.heap.size f [] cnt :: l) ∧ Kp w w' ∧ w'.heap.size = w.heap.size + 1 := by
  obtain ⟨es, clock, hr, ho⟩ := hs.mapE
  refine ⟨_, _, run_range_map w t kt et b es clock ht ho.get, Sat.rngI ⟨hr, hr.st.1, Nat.le_refl _, Nat.le_refl _, ⟨[], by simp, by simp, by simp, by simp⟩, rfl⟩ ((ho.alloc _).swap), (Kp.refl w).alloc _, by simp⟩

theorem Sat.setAt {w : World} {b r : Nat} {o o1 o' : Obj} {l : List HProp} (hs : Sat w (own b o1 :: own r o :: l)) : Sat (ChangeMaps.setBlock w r o') (own b o1 :: own r o' :: l) := by
  have h := hs.swap.setBlock (o' := o')
  exact h.1.swap

theorem run_nextM {w : World} {l : List HProp} {b r : Nat} {f : Int → Option Loc} {S : List (Int × Loc)} {cnt : Nat} (hs : Sat w (rngP b r f S cnt :: l)) (ty : TypeId) :
    ((∀ k s, f k = some s → (k, s) ∈ S) ∧ (Instr.next (.pointer (some ⟨r, 0, none⟩)) false ty).run P w = .ok (.tuple #[.bool false]) w) ∨
    ∃ k s w' c', f k = some s ∧ k ∉ S.map Prod.fst ∧ c' < cnt ∧ Sat w' (rngP b r f (S ++ [(k, s)]) c' :: l) ∧ Kp w w' ∧ (Instr.next (.pointer (some ⟨r, 0, none⟩)) false ty).run P w = .ok (.tuple #[.bool true, .int .i64 k, vL (some s)]) w' ∧
      (Instr.entry (.pointer (some ⟨r, 0, none⟩))).run P w' = .ok (.tuple #[.int .i64 k, vL (some s)]) w' := by
  obtain ⟨es, clock, since, seen, c0, hr, ho⟩ := hs.rngE
  obtain ⟨L, hL⟩ := hr.hd
  have hmap : ∀ x ∈ L, ∃ k s, x.key = .int .i64 k ∧ x.val = vL (some s) ∧ f k = some s ∧ (k, s) ∈ S := by
    intro x hx
    have h1 : (x.key, x.val) ∈ L.map (fun x => (x.key, x.val)) := List.mem_map.2 ⟨x, hx, rfl⟩
    rw [hL.is] at h1
    obtain ⟨p, hp, e⟩ := List.mem_map.1 h1
    simp only [Prod.mk.injEq] at e
    exact ⟨p.1, p.2, e.1.symm, e.2.symm, hr.facts.1 p hp, hp⟩
  rcases run_next_at (P := P) w ty r b since c0 seen es clock (ho.pull 1).get ho.get hr.old hr.le with ⟨h0, hrun⟩ | ⟨e, he, w1, hw1, hrun⟩
  · left
    refine ⟨fun k s hf => ?_, hrun⟩
    obtain ⟨x, hx, hk⟩ := hr.rd.all k s hf
    have hseen : seen.contains x.born = true := by
      cases hc : seen.contains x.born with
      | true => rfl
      | false =>
        have : x ∈ leftOf es seen := by
          unfold leftOf
          exact Array.mem_filter.2 ⟨Array.mem_toList_iff.1 hx, by rw [hc]; rfl⟩
        have := Array.size_pos_of_mem this
        omega
    have hb : x.born ∈ L.map (·.born) := by
      rw [← hL.born]
      simpa using hseen
    obtain ⟨y, hy, hyb⟩ := List.mem_map.1 hb
    have hxy : y = x := by
      have hym := hL.mem y hy
      obtain ⟨i, hi⟩ := List.getElem?_of_mem hym
      obtain ⟨j, hj⟩ := List.getElem?_of_mem hx
      obtain rfl := nodup_idx hr.rd.st.2.1 (i := i) (j := j) (a := x.born) (by rw [List.getElem?_map, hi, ← hyb]; rfl) (by rw [List.getElem?_map, hj]; rfl)
      rw [hi] at hj
      exact Option.some.inj hj
    subst hxy
    obtain ⟨k', s', e1, e2, e3, e4⟩ := hmap y hy
    rw [hk] at e1
    cases e1
    rw [hf] at e3
    cases e3
    exact e4
  · right
    obtain ⟨hem, hnot⟩ := mem_left he
    obtain ⟨k, s, e1, e2, e3⟩ := hr.rd.mem e hem
    have hknot : k ∉ S.map Prod.fst := by
      intro hk
      obtain ⟨p, hp, hpk⟩ := List.mem_map.1 hk
      have h1 : (Value.int .i64 p.1, vL (some p.2)) ∈ S.map (fun p => (Value.int .i64 p.1, vL (some p.2))) := List.mem_map.2 ⟨p, hp, rfl⟩
      rw [← hL.is] at h1
      obtain ⟨x, hx, ex⟩ := List.mem_map.1 h1
      simp only [Prod.mk.injEq] at ex
      have : x = e := other_born hr.rd.st (hL.mem x hx) hem (by rw [ex.1, hpk, e1])
      subst this
      have hb : x.born ∈ seen.toList := by rw [hL.born]; exact List.mem_map.2 ⟨x, hx, rfl⟩
      rw [Array.mem_toList_iff] at hb
      have := Array.contains_iff_mem.2 hb
      rw [hnot] at this
      cases this
    have hw1s : Sat w1 (own b (.map es clock) :: own r (.mapIter (some b) since seen c0) :: l) ∧ Kp w w1 := by
      rcases hw1 with rfl | rfl
      · exact ⟨ho, Kp.refl _⟩
      · exact ⟨ho.drew, (Kp.refl _).drew⟩
    have hrng : Rng es clock since (seen.push e.born) clock f (S ++ [(k, s)]) (leftOf es (seen.push e.born)).size := by
      refine ⟨hr.rd, hr.old, hr.sc, hr.sc, ⟨L ++ [e], ?_, ?_, ?_, ?_⟩, rfl⟩
      · intro x hx
        rcases List.mem_append.1 hx with hx | hx
        · exact hL.mem x hx
        · rw [List.mem_singleton.1 hx]; exact hem
      · simp [hL.born]
      · rw [List.map_append, List.map_append, hL.is]
        simp [e1, e3]
      · rw [List.map_append]
        refine List.nodup_append.2 ⟨hL.nodup, by simp, ?_⟩
        intro a ha c hc
        rw [List.map_singleton, List.mem_singleton] at hc
        subst hc
        obtain ⟨x, hx, rfl⟩ := List.mem_map.1 ha
        obtain ⟨k', s', f1, f2, f3, f4⟩ := hmap x hx
        rw [f1, e1]
        intro h
        cases h
        exact hknot (List.mem_map.2 ⟨_, f4, rfl⟩)
    refine ⟨k, s, _, _, e2, hknot, by rw [← hr.left]; exact left_shrinks es seen e he, Sat.rngI hrng hw1s.1.setAt, hw1s.2.trans ⟨rfl, rfl, rfl, by simp [ChangeMaps.setBlock]⟩, by rw [hrun, e1, e3], ?_⟩
    have h2 := (Sat.setAt (o' := .mapIter (some b) since (seen.push e.born) clock) hw1s.1)
    rw [run_entry_at _ r b since seen es clock e (h2.pull 1).get h2.get hem hr.rd.st.2.1, e1, e3]

variable {ops : Array Oper} {rest : List Oper} {o : Oper} {a : Act} {Q : Exit → Act → World → Prop}
theorem wpList_rangeM (w : World) (hg : o.guard = none) (m : Operand) (t : TypeId) (hop : o.op = Op.range t m) (ht : P.underlying t = some (.map kt et)) {l : List HProp} {b : Nat} {f : Int → Option Loc} (hm : a.eval m = .map (some b)) (hs : Sat w (mapP b f :: l))
    (hK : ∀ w' cnt, Sat w' (rngP b w.heap.size f [] cnt :: l) → Kp w w' → w'.heap.size = w.heap.size + 1 → wpList P ops Q rest (a.put o.dst (.pointer (some ⟨w.heap.size, 0, none⟩))) w') :
    wpList P ops Q (o :: rest) a w := by
  refine wpList_plain hg fun K' hK' => ?_
  obtain ⟨w', cnt, hrun, r1, r2, r3⟩ := run_rangeM hs ht
  unfold Oper.wp
  simp [execOp, hop, hm, hrun, Result.andThen]
  exact hK' _ _ (hK w' cnt r1 r2 r3)
theorem wpList_nextM (w : World) (hg : o.guard = none) (it : Operand) (hop : o.op = Op.next it false) {l : List HProp} {b r : Nat} {f : Int → Option Loc} {S : List (Int × Loc)} {cnt : Nat} (hit : a.eval it = .pointer (some ⟨r, 0, none⟩)) (hs : Sat w (rngP b r f S cnt :: l))
    (hDone : (∀ k s, f k = some s → (k, s) ∈ S) → wpList P ops Q rest (a.put o.dst (.tuple #[.bool false])) w)
    (hMore : ∀ k s w' c', f k = some s → k ∉ S.map Prod.fst → c' < cnt → Sat w' (rngP b r f (S ++ [(k, s)]) c' :: l) → Kp w w' → (Instr.entry (.pointer (some ⟨r, 0, none⟩))).run P w' = .ok (.tuple #[.int .i64 k, vL (some s)]) w' →
      wpList P ops Q rest (a.put o.dst (.tuple #[.bool true, .int .i64 k, vL (some s)])) w') :
    wpList P ops Q (o :: rest) a w := by
  refine wpList_plain hg fun K' hK' => ?_
  unfold Oper.wp
  rcases run_nextM (P := P) hs o.type with ⟨h0, hrun⟩ | ⟨k, s, w', c', h1, h2, hc, h3, h4, hrun, hen⟩
  · simp [execOp, hop, hit, hrun, Result.andThen]
    exact hK' _ _ (hDone h0)
  · simp [execOp, hop, hit, hrun, Result.andThen]
    exact hK' _ _ (hMore k s w' c' h1 h2 hc h3 h4 hen)
theorem wpList_storeM (w : World) (hg : o.guard = none) (m x v : Operand) (t : TypeId) (hop : o.op = Op.mapUpdate t m x v) (ht : P.underlying t = some (.map kt et)) (hk : P.underlying kt = some (.int .i64)) {l : List HProp} {b : Nat} {f : Int → Option Loc}
    (hm : a.eval m = .map (some b)) (hs : Sat w (mapP b f :: l)) (k : Int) (s : Loc) (hx : a.eval x = .int .i64 k) (hv : a.eval v = vL (some s))
    (hK : ∀ w', Sat w' (mapP b (upd f k (some s)) :: l) → Kp w w' → wpList P ops Q rest (a.put o.dst undef) w') :
    wpList P ops Q (o :: rest) a w := by
  refine wpList_plain hg fun K' hK' => ?_
  obtain ⟨w', hrun, r1, r2⟩ := run_store hs ht hk k s
  unfold Oper.wp
  simp [execOp, hop, hm, hx, hv, hrun, Result.andThen]
  exact hK' _ _ (hK w' r1 r2)
theorem wpList_deleteM (w : World) (hg : o.guard = none) (m x : Operand) (t kt : TypeId) (hop : o.op = Op.call { callee := Callee.builtin Builtin.delete, args := #[m, x], argTypes := #[t, kt] }) (ht : P.underlying t = some (.map kt et)) (hk : P.underlying kt = some (.int .i64)) {l : List HProp} {b : Nat} {f : Int → Option Loc}
    (hm : a.eval m = .map (some b)) (hs : Sat w (mapP b f :: l)) (k : Int) (hx : a.eval x = .int .i64 k)
    (hK : ∀ w', Sat w' (mapP b (upd f k none) :: l) → Kp w w' → wpList P ops Q rest (a.put o.dst (.tuple #[])) w') :
    wpList P ops Q (o :: rest) a w := by
  refine wpList_plain hg fun K' hK' => ?_
  obtain ⟨w', hrun, r1, r2⟩ := run_delete hs ht hk k o.type
  unfold Oper.wp
  simp [execOp, hop, resolve, invoke, builtin, hm, hx, hrun, Result.andThen]
  exact hK' _ _ (hK w' r1 r2)
end

end Go.Proofs.YtbnipieokpeadaaDoor

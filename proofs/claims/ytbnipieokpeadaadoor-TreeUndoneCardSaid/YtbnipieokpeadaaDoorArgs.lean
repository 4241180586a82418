import Derived.Test.YtbnipieokpeadaaDoorLaw
import Derived.Deep.Slices
import Derived.Deep.Fields
namespace Go.Proofs.YtbnipieokpeadaaDoor
open Go Go.RowKit Go.ChangeShapes Go.WideShapes Go.Deep
set_option linter.unusedVariables false

/-! arguments that are slices of whatever -/
theorem list_of {α : Type} {R : Nat → α → Prop} : ∀ n : Nat, (∀ i, i < n → ∃ x, R i x) → ∃ xs : List α, xs.length = n ∧ ∀ i x, xs[i]? = some x → R i x
  | 0, _ => ⟨[], rfl, by simp⟩
  | n + 1, h => by
    obtain ⟨xs, hl, hx⟩ := list_of n fun i hi => h i (by omega)
    obtain ⟨x, hr⟩ := h n (by omega)
    refine ⟨xs ++ [x], by simp [hl], fun i y hy => ?_⟩
    rcases Nat.lt_or_ge i n with hi | hi
    · rw [List.getElem?_append_left (by omega)] at hy
      exact hx i y hy
    · rw [List.getElem?_append_right (by omega)] at hy
      obtain rfl : i = n := by
        have := (List.getElem?_eq_some_iff.1 hy).1
        simp at this; omega
      simp [hl] at hy
      rw [← hy]; exact hr

theorem flat_inv {α : Type} {f : α → List Value} {size : Nat} (hf : ∀ x, (f x).length = size) : ∀ (xs : List α) (j : Nat) (u : Value), (xs.flatMap f)[j]? = some u → ∃ i k x, xs[i]? = some x ∧ k < size ∧ j = i * size + k ∧ (f x)[k]? = some u
  | [], j, u, h => by simp at h
  | x :: xs, j, u, h => by
    rw [List.flatMap_cons] at h
    rcases Nat.lt_or_ge j size with hj | hj
    · rw [List.getElem?_append_left (by rw [hf]; exact hj)] at h
      exact ⟨0, j, x, rfl, hj, by omega, h⟩
    · rw [List.getElem?_append_right (by rw [hf]; exact hj), hf] at h
      obtain ⟨i, k, y, h1, h2, h3, h4⟩ := flat_inv hf xs (j - size) u h
      refine ⟨i + 1, k, y, by simpa using h1, h2, ?_, h4⟩
      rw [Nat.add_mul]; omega

section
variable {H : Type} {enc : TypeId × Value → H} {P : Program} {w : World} {base : Nat} {spare : Nat → Bool} {held : Bool}

theorem arg_rowOf {α : Type} {f : α → List Value} {Q : α → Prop} {t e : TypeId} {size : Nat} (ht : P.underlying t = some (.slice e)) (hc : P.cellsOf e = size) (hp : 0 < size) (hf : ∀ x, (f x).length = size)
    (hel : ∀ n cs y, DataW.trod enc P w base spare held n e cs = some y → cs.length = size → ∃ x, cs = f x ∧ Q x)
    {fuel : Nat} {cs : List Value} {y : DataW H × List MemPlace} (h : DataW.trod enc P w base spare held fuel t cs = some y) :
    ∃ ao n cap xs, cs = [.slice ao n cap] ∧ ArgRow w f ao n cap xs ∧ ∀ x ∈ xs, Q x := by
  rcases Go.Deep.open_slice ht h with ⟨h0, _⟩ | ⟨a, len, cap, m, n, D, Pl, hcs, hb, hl, hm, hmm, hx, hi⟩
  · exact ⟨none, 0, 0, [], h0, ⟨rfl, Nat.le_refl _, by simp [maxLen], fun h => by omega⟩, by simp⟩
  have hlm : len ≤ m := by rw [hmm]; split <;> omega
  obtain ⟨xs, hxl, hxs⟩ := list_of (α := α) (R := fun i x => (∀ k, k < size → w.cell? (a.add (i * size + k)) = (f x)[k]?) ∧ Q x) len (fun i hil => by
    obtain ⟨cs', h1, h2⟩ := hi i (by omega)
    rw [hc] at h1
    obtain ⟨_, h3, h4⟩ := World.cells?_some h1
    obtain ⟨x, rfl, hq⟩ := hel n cs' _ h2 h3
    refine ⟨x, fun k hk => ?_, hq⟩
    rw [← Go.Deep.add_add, h4 k hk])
  refine ⟨some a, len, cap, xs, hcs, ⟨hxl, hl, hm, fun hn => ?_⟩, fun x hx => ?_⟩
  · obtain ⟨b, off, spot⟩ := a
    have h0 : 0 < xs.length := by omega
    have hspot : spot = none := by
      have h1 := (hxs 0 xs[0] (by simp)).1 0 hp
      rw [List.getElem?_eq_getElem (by rw [hf]; exact hp)] at h1
      simpa [Addr.add] using World.cell?_spot h1
    subst hspot
    refine ⟨b, off, rfl, fun j u hj => ?_⟩
    obtain ⟨i, k, x, h1, h2, rfl, h4⟩ := flat_inv hf xs j u hj
    rw [← add_plain, (hxs i x h1).1 k h2, h4]
  · obtain ⟨i, hi2, rfl⟩ := List.mem_iff_getElem.1 hx
    exact (hxs i _ (List.getElem?_eq_getElem hi2)).2

theorem arg_row {α : Type} {f : α → List Value} {Q : α → Prop} {t e : TypeId} {size : Nat} {v : Value} {d : DataW H} {ps : List MemPlace} {b0 : Nat} (ht : P.underlying t = some (.slice e)) (hc : P.cellsOf e = size) (hp : 0 < size) (hf : ∀ x, (f x).length = size)
    (hel : ∀ n cs y, DataW.trod enc P w base spare held n e cs = some y → cs.length = size → ∃ x, cs = f x ∧ Q x)
    (hval : Value.okWide P w .any b0 t v) (hd : DataW.Trod enc P w base spare held t v d ps) : ∃ ao n cap xs, v = .slice ao n cap ∧ ArgRow w f ao n cap xs ∧ ∀ x ∈ xs, Q x := by
  obtain ⟨ao, n, cap, rfl⟩ := okWide_slice ht hval
  obtain ⟨fuel, hfu⟩ := hd
  obtain ⟨ao', n', cap', xs, h1, h2, h3⟩ := arg_rowOf ht hc hp hf hel hfu
  simp [Value.cells] at h1
  obtain ⟨rfl, rfl, rfl⟩ := h1
  exact ⟨ao, n, cap, xs, rfl, h2, h3⟩

/-- A struct's fields, each one cell. -/
theorem struct_cells {t : TypeId} {fs : Array Field} (ht : P.underlying t = some (.struct fs)) (hone : oneCellFields P fs = true) {fuel : Nat} {cs : List Value} {y : DataW H × List MemPlace}
    (h : DataW.trod enc P w base spare held fuel t cs = some y) (hl : cs.length = fs.size) :
    ∃ n, ∀ (j : Nat) (f : Field), fs[j]? = some f → ∃ v z, cs[j]? = some v ∧ DataW.trod enc P w base spare held n f.type [v] = some z := by
  obtain ⟨ys, n, _, _, _, hyl, hg⟩ := DataW.trod_struct ht h
  refine ⟨n, fun j f hj => ?_⟩
  obtain ⟨ho, hk⟩ := hone_of hone j f hj
  have hjl : j < fs.size := (Array.getElem?_eq_some_iff.1 hj).1
  have h1 := hg j f hj
  rw [ho, hk, List.drop_eq_getElem_cons (by omega)] at h1
  have h2 : ys[j]? = some (ys[j]'(by omega)) := List.getElem?_eq_getElem (by omega)
  exact ⟨_, _, List.getElem?_eq_getElem (by omega), h1.trans h2⟩
end

/-! append of a slice that came in -/
theorem len_flatA {α : Type} {f : α → List Value} {size : Nat} (hf : ∀ x, (f x).length = size) : ∀ xs : List α, (xs.flatMap f).length = xs.length * size
  | [] => by simp
  | x :: xs => by rw [List.flatMap_cons, List.length_append, len_flatA hf xs, hf, List.length_cons, Nat.add_mul]; omega

theorem run_append_none {P : Program} {w : World} (t ty e : TypeId) (i : TypeInfo) (ht : P.underlying t = some (.slice e)) (hi : P.info? e = some i) (base : Option Addr) (n cap c : Nat) (hn : n ≤ cap) :
    (Builtin.append_ #[t, t] ty #[.slice base n cap, .slice none 0 c]).run P w = .ok (.slice base n cap) w := by
  cases base <;> simp [Builtin.append_, Builtin.firstCells, storeCells, run_underlying ht, sizeOf, typeInfo, hi, Builtin.lenOf, hn]

theorem wpList_append_arg {P : Program} {w : World} {ops : Array Oper} {rest : List Oper} {o : Oper} {a : Act} {Q : Exit → Act → World → Prop} (hgd : o.guard = none) (s x : Operand) (t : TypeId)
    (ho : o.op = .call { callee := .builtin .append, args := #[s, x], argTypes := #[t, t] })
    (e : TypeId) (i : TypeInfo) (z : Value) (size bytes : Nat) (ht : P.underlying t = some (.slice e)) (hi : P.info? e = some i) (hz : i.zero = some z)
    (hsize : i.size = size) (hby : i.bytes = bytes) (hzs : z.cells.size = size) (hsz : 0 < size)
    (v : Value) {α : Type} (f : α → List Value) (xs ys : List α) (l : List HProp) (hv : a.eval s = v) (hs : Sat w (rowT f v e size xs :: l))
    (ao : Option Addr) (m c : Nat) (hx : a.eval x = .slice ao m c) (ha : ArgRow w f ao m c ys) (hf : ∀ x, (f x).length = size) (h1 : ∀ u ∈ ys.flatMap f, u.oneCell' = true)
    (h63 : xs.length + m ≤ maxLen) (hbytes : (xs.length + m) * bytes ≤ 140737488355328)
    (h : ∀ v' w', Sat w' (rowT f v' e size (xs ++ ys) :: l) → Kp w w' → wpList P ops Q rest (a.put o.dst v') w') : wpList P ops Q (o :: rest) a w := by
  refine wpList_plain hgd fun K hK => ?_
  have hlen := ha.len
  have key : ∃ v' w', (Builtin.append_ #[t, t] o.type #[v, .slice ao m c]).run P w = .ok v' w' ∧ Sat w' (rowT f v' e size (xs ++ ys) :: l) ∧ Kp w w' := by
    rcases Nat.eq_zero_or_pos m with rfl | hm
    · have hys : ys = [] := List.eq_nil_of_length_eq_zero hlen
      subst hys
      rw [List.append_nil]
      cases ao with
      | none =>
        rcases hs.tForm with ⟨rfl, rfl⟩ | ⟨g, off, cap, rfl⟩
        · exact ⟨_, w, run_append_none t o.type e i ht hi none 0 0 c (Nat.le_refl _), hs, Kp.refl w⟩
        · exact ⟨_, w, run_append_none t o.type e i ht hi _ _ cap c hs.tCap.1, hs, Kp.refl w⟩
      | some ad =>
        obtain ⟨v', w', hr, h2, h3⟩ := run_append_row (P := P) t o.type e i z size bytes ht hi hz hsize hby hzs hsz hs ad 0 c [] (by simp) (by simp) (by simp) h63 hbytes
        exact ⟨v', w', hr, h2.tOf xs (by simp) (by simp), h3⟩
    · obtain ⟨b, off, rfl, hc⟩ := ha.cells hm
      obtain ⟨v', w', hr, h2, h3⟩ := run_append_row (P := P) t o.type e i z size bytes ht hi hz hsize hby hzs hsz hs ⟨b, off, none⟩ m c (ys.flatMap f) (by rw [len_flatA hf, hlen]) (fun j u hj => by rw [Addr.add_lit]; exact hc j u hj) h1 h63 hbytes
      exact ⟨v', w', hr, h2.tOf (xs ++ ys) (by simp [hlen]) (by simp), h3⟩
  obtain ⟨v', w', hr, h2, h3⟩ := key
  unfold Oper.wp execOp
  simp only [ho, resolve, invoke, builtin, Sem.run_bind, Sem.run_pure, Result.andThen_ok, List.map_toArray, List.map_cons, List.map_nil, hv, hx, hr]
  exact hK _ _ (h v' w' h2 h3)

end Go.Proofs.YtbnipieokpeadaaDoor

import Derived.Test.YtbnipieokpeadaaDoorLaw
namespace Go.Proofs.YtbnipieokpeadaaDoor
open Go Go.RowKit
set_option linter.unusedVariables false

/-! ### slices that are only read from now on, and may lie in several places -/

section
variable {α : Type} {f : α → List Value}
def Rd (f : α → List Value) (h : Hp) (v : Value) (ks : List α) : Prop := ∃ ao cap, v = .slice ao ks.length cap ∧ ks.length ≤ cap ∧ cap ≤ maxLen ∧ (0 < ks.length → ∃ b off cur e fz, ao = some ⟨b, off, none⟩ ∧ h b = some (.cells cur e fz) ∧ ∀ j u, (ks.flatMap f)[j]? = some u → cur[off + j]? = some u)
def poolP (f : α → List Value) (ps : List (Value × List α)) : HProp := fun h => ∀ p ∈ ps, Rd f h p.1 p.2
theorem Rd.mono {h h' : Hp} {v : Value} {ks : List α} (hr : Rd f h v ks) (hh : ∀ b o, h b = some o → h' b = some o) : Rd f h' v ks := by
  obtain ⟨ao, cap, h1, h2, h3, h4⟩ := hr
  refine ⟨ao, cap, h1, h2, h3, fun hp => ?_⟩
  obtain ⟨b, off, cur, e, fz, h5, h6, h7⟩ := h4 hp
  exact ⟨b, off, cur, e, fz, h5, hh _ _ h6, h7⟩
theorem Sat.poolNil {w : World} {l : List HProp} (f : α → List Value) (hs : Sat w l) : Sat w (poolP f [] :: l) := hs.emp.head fun _ _ p hp => by cases hp
theorem Sat.poolSub {w : World} {l : List HProp} {ps ps' : List (Value × List α)} (hs : Sat w (poolP f ps :: l)) (hsub : ∀ p ∈ ps', p ∈ ps) : Sat w (poolP f ps' :: l) := hs.head fun _ h p hp => h p (hsub p hp)
theorem rd_row {h : Hp} {v : Value} {e : TypeId} {size : Nat} {ks : List α} (hh : rowT f v e size ks h) : Rd f h v ks := by
  obtain ⟨hl, hh⟩ := hh
  rcases hh with ⟨rfl, hn, _⟩ | ⟨g, off, cap, cur, rfl, hn, hc, hsz, hx, ho⟩
  · exact ⟨none, 0, by rw [hn], by omega, by simp [maxLen], fun h => by omega⟩
  · refine ⟨_, cap, rfl, hn, hc, fun _ => ⟨g, off, cur, e, (0, 0), rfl, ho.1, fun j u hj => ?_⟩⟩
    rw [← hx] at hj
    have hj2 : j < ks.length * size := by
      have := (List.getElem?_eq_some_iff.1 hj).1
      rw [List.length_take] at this
      omega
    rw [drop_take_getElem? _ _ _ _ hj2, Array.getElem?_toList] at hj
    exact hj
/-- A slice of the call's own is only read from now on. -/
theorem Sat.poolIn {w : World} {l : List HProp} {v : Value} {e : TypeId} {size : Nat} {ks : List α} {ps : List (Value × List α)} (hs : Sat w (rowT f v e size ks :: poolP f ps :: l)) : Sat w (poolP f ((v, ks) :: ps) :: l) := by
  refine hs.join.head ?_
  rintro h ⟨h1, h2, hd, he, a, b⟩ p hp
  rcases List.mem_cons.1 hp with rfl | hp
  · exact (rd_row a).mono fun x o hx => by rw [he, hx]; rfl
  · exact (b p hp).mono fun x o hx => by
      rw [he, (hd x).resolve_right (by rw [hx]; simp)]
      simpa using hx
theorem Sat.poolArg {w : World} {l : List HProp} {v : Value} {ks : List α} {ps : List (Value × List α)} (hs : Sat w (poolP f ps :: l)) (hp : (v, ks) ∈ ps) : ∃ ao cap, v = .slice ao ks.length cap ∧ ArgRow w f ao ks.length cap ks := by
  obtain ⟨h, ⟨h1, h2, hd, he, a, _⟩, hw⟩ := hs
  obtain ⟨ao, cap, e1, e2, e3, e4⟩ := a _ hp
  refine ⟨ao, cap, e1, rfl, e2, e3, fun hn => ?_⟩
  obtain ⟨b, off, cur, e, fz, e5, e6, e7⟩ := e4 hn
  refine ⟨b, off, e5, fun j u hj => ?_⟩
  have hb := hw b (.cells cur e fz) (by rw [he, e6]; rfl)
  rw [cell_of_row w b (off + j) cur e fz hb]
  exact e7 j u hj
/-- The same, told of the slice's form. -/
theorem Sat.poolArg' {w : World} {l : List HProp} {ao : Option Addr} {n cap : Nat} {ks : List α} {ps : List (Value × List α)} (hs : Sat w (poolP f ps :: l)) (hp : (.slice ao n cap, ks) ∈ ps) : ArgRow w f ao n cap ks := by
  obtain ⟨ao', cap', e, h⟩ := hs.poolArg hp
  simp only [Value.slice.injEq] at e
  obtain ⟨rfl, rfl, rfl⟩ := e
  exact h
/-- The same slice stands in any later world with its piece. -/
theorem ArgRow.cell {w : World} {ao : Option Addr} {n cap : Nat} {ks : List α} {size : Nat} (hf : ∀ x, (f x).length = size) (h : ArgRow w f ao n cap ks) {b off i : Nat} (k : Nat) {x : α} {u : Value} (hao : ao = some ⟨b, off, none⟩) (hx : ks[i]? = some x) (hu : (f x)[k]? = some u) : w.cell? ⟨b, off + i * size + k, none⟩ = some u := by
  have hk : k < size := by have := (List.getElem?_eq_some_iff.1 hu).1; rwa [hf] at this
  have hi := (List.getElem?_eq_some_iff.1 hx).1
  have hl := h.len
  obtain ⟨b', off', e, hc⟩ := h.cells (by omega)
  rw [hao] at e
  simp only [Option.some.injEq, Addr.mk.injEq, and_true] at e
  obtain ⟨rfl, rfl⟩ := e
  rw [Nat.add_assoc]
  exact hc _ _ (by rw [get_flat hf ks i k x hx hk]; exact hu)
theorem ArgRow.some {w : World} {ao : Option Addr} {n cap : Nat} {ks : List α} (h : ArgRow w f ao n cap ks) {i : Nat} (hi : i < n) : ∃ b off, ao = some ⟨b, off, none⟩ := by
  obtain ⟨b, off, e, _⟩ := h.cells (by omega)
  exact ⟨b, off, e⟩
end

end Go.Proofs.YtbnipieokpeadaaDoor

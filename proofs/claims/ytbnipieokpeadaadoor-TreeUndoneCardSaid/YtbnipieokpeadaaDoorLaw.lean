/-
  A LAW's ROW, ONCE FOR ALL: out of the contract 'it returns true, and all that was there is as it was'. And: the old memory as one assertion.
-/
import Derived.Test.YtbnipieokpeadaaDoorSl
import Derived.Test.YtbnipieokpeadaaDoorRows
import Derived.ProofKit
import Derived.OpenShut
import Derived.WideKeyArgs
import Derived.Carry
import Derived.Deep.CutBlock
import Derived.Deep.DeepCutAuto
import Derived.ChangeSlices
namespace Go.Proofs.YtbnipieokpeadaaDoor
open Go.ChangeShapes Go.WideShapes Go.ChangeAt Go.RowKit

theorem take_snoc' {α : Type} {l : List α} {k : Nat} {x : α} (h : l[k]? = some x) : l.take (k + 1) = l.take k ++ [x] := by rw [List.take_add_one, h]; rfl
theorem drop_cons' {α : Type} {l : List α} {k : Nat} {x : α} (h : l[k]? = some x) : l.drop k = x :: l.drop (k + 1) := by
  have hk := (List.getElem?_eq_some_iff.1 h).1
  rw [List.drop_eq_getElem_cons hk, (List.getElem?_eq_some_iff.1 h).2]
theorem get_set_self {α : Type} {l : List α} {i : Nat} {a : α} (h : i < l.length) : (l.set i a)[i]? = some a := by simp [h]
theorem get_set_ne {α : Type} {l : List α} {i j : Nat} {a : α} (h : i ≠ j) : (l.set i a)[j]? = l[j]? := List.getElem?_set_ne h
theorem get_repl {α : Type} {n k : Nat} {x : α} (h : k < n) : (List.replicate n x)[k]? = some x := by simp [h]

/-- All blocks that W has, as they are there. -/
def oldH (W : World) : HProp := fun h => (∀ b, b < W.heap.size → h b = W.heap[b]?) ∧ ∀ b, W.heap.size ≤ b → h b = none

theorem Sat.start (W : World) : Sat W [oldH W] := by
  refine ⟨fun b => W.heap[b]?, star_emp ⟨fun _ _ => rfl, fun b hb => by simp [hb]⟩, fun _ _ h => h⟩

theorem Sat.oldBlock {W w : World} {l : List HProp} (hs : Sat w (oldH W :: l)) (b : Nat) (hb : b < W.heap.size) : w.heap[b]? = W.heap[b]? := by
  obtain ⟨h, ⟨h1, h2, hd, he, a, _⟩, hw⟩ := hs
  have h1b := a.1 b hb
  rw [Array.getElem?_eq_getElem hb] at h1b ⊢
  exact hw b _ (by rw [he, h1b]; rfl)

theorem Sat.below {W w : World} {l : List HProp} (hs : Sat w (oldH W :: l)) (hk : Kp W w) : Below W.heap.size W w :=
  ⟨hk.os, hk.tape, hk.output, hk.size, fun b hb => hs.oldBlock b hb⟩

theorem Sat.oldCell {W w : World} {l : List HProp} (hs : Sat w (oldH W :: l)) {a : Addr} {v : Value} (hc : W.cell? a = some v) : w.cell? a = some v := by
  rw [World.cell?_of_block (hs.oldBlock a.block (World.block_lt_of_cell? _ _ hc))]; exact hc

theorem wf_u8 {n : Int} (h : (Lit.int .u8 n).wf = true) : 0 ≤ n ∧ n < 256 := by
  have h0 : IntKind.u8.min = 0 := rfl
  have h1 : IntKind.u8.max = 255 := rfl
  simp only [Lit.wf, h0, h1, Bool.and_eq_true, decide_eq_true_eq] at h
  omega

def fU : Int → List Value := fun x => [.int .u8 x]
theorem get_fU : ∀ (xs : List Int) (i : Nat), (xs.flatMap fU)[i]? = xs[i]?.map (Value.int .u8)
  | [], i => by simp
  | x :: xs, 0 => by simp [fU]
  | x :: xs, i + 1 => by rw [List.flatMap_cons, List.getElem?_append_right (by simp [fU])]; simpa [fU] using get_fU xs i

/-- A slice's length: for a measure. -/
def lenV : Value → Nat | .slice _ n _ => n | _ => 0
theorem Sat.rowLen {w : World} {v : Value} {e : TypeId} {size n : Nat} {xs : List Value} {l : List HProp} (hs : Sat w (row v e size n xs :: l)) : lenV v = n := by
  rcases hs.rowForm with ⟨rfl, rfl, _⟩ | ⟨g, off, cap, rfl⟩ <;> rfl

/-- A slice that came in: n elements, each by its cells. -/
structure ArgRow {α : Type} (W : World) (f : α → List Value) (ao : Option Addr) (n cap : Nat) (xs : List α) : Prop where
  len : xs.length = n
  le : n ≤ cap
  small : cap ≤ maxLen
  cells : 0 < n → ∃ b off, ao = some ⟨b, off, none⟩ ∧ ∀ j u, (xs.flatMap f)[j]? = some u → W.cell? ⟨b, off + j, none⟩ = some u

theorem ArgRow.kept {α : Type} {W w : World} {f : α → List Value} {ao : Option Addr} {n cap : Nat} {xs : List α} (h : ArgRow W f ao n cap xs) (hk : ∀ a v, W.cell? a = some v → w.cell? a = some v) : ArgRow w f ao n cap xs :=
  ⟨h.len, h.le, h.small, fun hn => by
    obtain ⟨b, off, rfl, hc⟩ := h.cells hn
    exact ⟨b, off, rfl, fun j u hj => hk _ _ (hc j u hj)⟩⟩
theorem ArgRow.old {α : Type} {W w : World} {f : α → List Value} {ao : Option Addr} {n cap : Nat} {xs : List α} {l : List HProp} (h : ArgRow W f ao n cap xs) (hs : Sat w (oldH W :: l)) : ArgRow w f ao n cap xs := h.kept fun _ _ hc => hs.oldCell hc
theorem ArgRow.drewN {α : Type} {w : World} {f : α → List Value} {ao : Option Addr} {n cap : Nat} {xs : List α} (h : ArgRow w f ao n cap xs) (k : Nat) : ArgRow (w.drewN k) f ao n cap xs := h.kept fun _ _ hc => hc
theorem Sat.argRow {α : Type} {f : α → List Value} {w : World} {v : Value} {e : TypeId} {size : Nat} {xs : List α} {l : List HProp} (hs : Sat w (rowT f v e size xs :: l)) : ∃ ao cap, v = .slice ao xs.length cap ∧ ArgRow w f ao xs.length cap xs := by
  rcases hs.tForm with ⟨rfl, rfl⟩ | ⟨g, off, cap, rfl⟩
  · exact ⟨none, 0, rfl, rfl, Nat.le_refl _, by simp [maxLen], fun h => by simp at h⟩
  · obtain ⟨h1, _, h3⟩ := hs.tCap
    refine ⟨some ⟨g, off, none⟩, cap, rfl, rfl, h1, h3, fun _ => ⟨g, off, rfl, fun j u hj => ?_⟩⟩
    have hl := (Sat.rowE hs).1
    have hj2 := (List.getElem?_eq_some_iff.1 hj).1
    rw [Sat.rowCell hs j (by omega)]; exact hj

section
variable {H : Type} {enc : TypeId × Value → H} {P : Program} {w : World} {base : Nat} {spare : Nat → Bool} {held : Bool}
theorem arg_ints {t e : TypeId} {v : Value} {d : DataW H} {ps : List MemPlace} {b0 : Nat} (ht : P.underlying t = some (.slice e)) (he : P.underlying e = some (.int .i64)) (hc : P.cellsOf e = 1)
    (hval : Value.okWide P w .any b0 t v) (hd : DataW.Trod enc P w base spare held t v d ps) : ∃ ao n cap xs, v = .slice ao n cap ∧ ArgRow w fI ao n cap xs ∧ ∀ x ∈ xs, (Lit.int .i64 x).wf = true := by
  obtain ⟨ao, n, cap, rfl⟩ := okWide_slice ht hval
  obtain ⟨fuel, hf⟩ := hd
  rcases open_ints ht he hc hf with ⟨h, _⟩ | ⟨a, len, cap', zs, h, _, hl, hm, hz, _, hcell, hwf⟩
  · simp [Value.cells] at h
    obtain ⟨rfl, rfl, rfl⟩ := h
    exact ⟨none, 0, 0, [], rfl, ⟨rfl, Nat.le_refl _, by simp [maxLen], fun h => by omega⟩, by simp⟩
  · simp [Value.cells] at h
    obtain ⟨rfl, rfl, rfl⟩ := h
    have hlz : n ≤ zs.length := by split at hz <;> omega
    refine ⟨some a, n, cap, zs.take n, rfl, ⟨by simp; omega, hl, hm, fun hn => ?_⟩, fun x hx => hwf x (List.mem_of_mem_take hx)⟩
    obtain ⟨b, off, spot⟩ := a
    have hspot : spot = none := by simpa [Addr.add] using World.cell?_spot (hcell 0 (by omega))
    subst hspot
    refine ⟨b, off, rfl, fun j u hj => ?_⟩
    rw [get_fI, Option.map_eq_some_iff] at hj
    obtain ⟨x, hx, rfl⟩ := hj
    rw [List.getElem?_take] at hx
    split at hx
    · have hj2 := (List.getElem?_eq_some_iff.1 hx).1
      rw [← add_plain, hcell j hj2]
      simp [List.getD, hx]
    · cases hx
theorem arg_u8s {t e : TypeId} {v : Value} {d : DataW H} {ps : List MemPlace} {b0 : Nat} (ht : P.underlying t = some (.slice e)) (he : P.underlying e = some (.int .u8)) (hc : P.cellsOf e = 1)
    (hval : Value.okWide P w .any b0 t v) (hd : DataW.Trod enc P w base spare held t v d ps) : ∃ ao n cap xs, v = .slice ao n cap ∧ ArgRow w fU ao n cap xs ∧ ∀ x ∈ xs, (Lit.int .u8 x).wf = true := by
  obtain ⟨ao, n, cap, rfl⟩ := okWide_slice ht hval
  obtain ⟨fuel, hf⟩ := hd
  rcases open_ints ht he hc hf with ⟨h, _⟩ | ⟨a, len, cap', zs, h, _, hl, hm, hz, _, hcell, hwf⟩
  · simp [Value.cells] at h
    obtain ⟨rfl, rfl, rfl⟩ := h
    exact ⟨none, 0, 0, [], rfl, ⟨rfl, Nat.le_refl _, by simp [maxLen], fun h => by omega⟩, by simp⟩
  · simp [Value.cells] at h
    obtain ⟨rfl, rfl, rfl⟩ := h
    have hlz : n ≤ zs.length := by split at hz <;> omega
    refine ⟨some a, n, cap, zs.take n, rfl, ⟨by simp; omega, hl, hm, fun hn => ?_⟩, fun x hx => hwf x (List.mem_of_mem_take hx)⟩
    obtain ⟨b, off, spot⟩ := a
    have hspot : spot = none := by simpa [Addr.add] using World.cell?_spot (hcell 0 (by omega))
    subst hspot
    refine ⟨b, off, rfl, fun j u hj => ?_⟩
    rw [get_fU, Option.map_eq_some_iff] at hj
    obtain ⟨x, hx, rfl⟩ := hj
    rw [List.getElem?_take] at hx
    split at hx
    · have hj2 := (List.getElem?_eq_some_iff.1 hx).1
      rw [← add_plain, hcell j hj2]
      simp [List.getD, hx]
    · cases hx
end

/-- What a law's contract says. -/
def LawCalls (P : Program) (f : FuncId) (args : Array Value) (W : World) : Prop := Calls P f args W fun e W' => e = .returned (.bool true) ∧ Below W.heap.size W W'

section
variable {H : Type} {enc : TypeId × Value → H} {P : Program}
theorem trodAll_stays (hl : laidOutB P = true) {W W' : World} {sp : Nat → Bool} : ∀ {ts : List TypeId} {vs : List Value} {ds : List (DataW H)} {ps : List MemPlace},
    (∀ t ∈ ts, P.readableRec t = true ∧ t < P.types.size) → DataW.TrodAll enc P W 0 (fun _ => true) true ts vs ds ps → (∀ p ∈ ps, W.sameAt W' p) → (∀ p ∈ ps, sp p.block = true) → DataW.TrodAll enc P W' 0 sp true ts vs ds ps
  | [], vs, ds, ps, _, h, _, _ => by
    obtain ⟨rfl, rfl, rfl⟩ := trodAll_nil h
    exact trodAll_mk0
  | t :: ts, vs, ds, ps, hr, h, hs, hsp => by
    obtain ⟨v, vs', d, ds', p, q, rfl, rfl, rfl, h1, h2⟩ := trodAll_cons h
    exact trodAll_cons_mk (WideElems.Trod_stays hl (hr t (by simp)).1 (hr t (by simp)).2 h1 (fun x hx => hs x (List.mem_append_left _ hx)) (fun x hx => hsp x (List.mem_append_left _ hx)))
      (trodAll_stays hl (fun t' ht => hr t' (by simp [ht])) h2 (fun x hx => hs x (List.mem_append_right _ hx)) (fun x hx => hsp x (List.mem_append_right _ hx)))

theorem law_post {f : Func} {s : ChangeSpec} {apart fresh handsOn : Bool} {W W' : World} {args : Array Value} {ds gs : List (DataW H)} {before : List MemPlace} {tb : TypeId}
    (hl : laidOutB P = true) (hub : P.underlying tb = some .bool) (hres : f.resultTypes = #[tb]) (hvars : s.vars = []) (hr : ∀ t ∈ f.params.toList, P.readableRec t = true ∧ t < P.types.size)
    (hW : DataW.Whole enc P f.params.toList s.vars apart W args.toList ds gs before) (hfn : s.fn H (ds ++ gs) = { results := [.lit (.bool true)], args := ds }) (hb : Below W.heap.size W W') :
    s.post enc P f apart fresh handsOn false W args (.bool true) W' := by
  have hlt : ∀ p ∈ before, p.block < W.heap.size := fun p hp => hW.lt p hp
  have hW' := hW
  obtain ⟨p, q, hA, hV, rfl, hfz, hnd⟩ := hW
  rw [hvars] at hV
  obtain ⟨rfl, rfl⟩ := trodVars_none hV
  simp only [List.append_nil] at hlt
  refine ⟨ds, [], p ++ [], [], p, [], hW', ?_, ?_, ?_, World.keptBut_mono (fun x hx => ?_) (hb.frame (· ∈ p)), fun h => by cases h⟩
  · rw [hfn, hres]
    exact trodAll_cons_mk (shut_bool hub _) trodAll_mk0
  · rw [hfn]
    exact trodAll_stays hl hr hA (fun x hx => hb.same (hlt x hx)) (fun x hx => by simpa using hlt x hx)
  · rw [hfn, hvars]
    exact rfl
  · exact ⟨by simpa using hx, .inr (.inl hx)⟩

end

/-- The row's step. -/
theorem law_lifted {C : Checked} (own : ownKnob C.prog.godebug = none) {os : Os} (started : os.Started) {f : FuncId} {fn : Func} {s : ChangeSpec} {apart fresh handsOn : Bool} {tb : TypeId} {H : Type} {enc : TypeId × Value → H}
    (noInit : C.prog.inits.idxOf? f = none) (hfn : C.prog.funcs[f]? = some fn) (hl : laidOutB C.prog = true) (hub : C.prog.underlying tb = some .bool) (hres : fn.resultTypes = #[tb]) (hvars : s.vars = [])
    (hr' : (fn.params.toList.all fun t => C.prog.readableRec t && decide (t < C.prog.types.size)) = true)
    (witness : ∃ (w : World) (tape : Tape) (i : Input), w.os = os ∧ (w.forCall tape i).Shaped C.prog ∧ i.vars = [] ∧ Input.okWide C.prog (w.forCall tape i) .any w.heap.size f i ∧
      s.pre6 enc C.prog fn [] apart (w.forCall tape i).memory i.args ∧ ({} : Assume).holds C.prog (lone (Frame.enter C.prog f i.args .normal) [] (w.forCall tape i)))
    (hs : ∀ ds : List (DataW H), ds.length = fn.params.size → s.fn H (ds ++ []) = { results := [.lit (.bool true)], args := ds })
    (hc : ∀ (W : World) (base : Nat) (args : Array Value) (ds : List (DataW H)) (p : List MemPlace), (∀ (j : Nat) t v, fn.params[j]? = some t → args[j]? = some v → Value.okWide C.prog W .any base t v) →
      DataW.TrodAll enc C.prog W 0 (fun _ => true) true fn.params.toList args.toList ds p → LawCalls C.prog f args W) :
    ReturnsInHanded {} C os f .any (s.pre6 enc C.prog fn [] apart) (s.post enc C.prog fn apart fresh handsOn false) := by
  have hr : ∀ t ∈ fn.params.toList, C.prog.readableRec t = true ∧ t < C.prog.types.size := fun t ht => by
    have := List.all_eq_true.1 hr' t ht
    simpa using this
  refine returnsInHanded_of_change own started noInit hfn witness ?_
  intro W base args ds gs before hval hW _ _
  have hW' := hW
  obtain ⟨p, q, hA, hV, rfl, hfz, hnd⟩ := hW
  have hV' := hV
  rw [hvars] at hV'
  obtain ⟨rfl, rfl⟩ := trodVars_none hV'
  have hlen : ds.length = fn.params.size := by
    have key : ∀ {ts : List TypeId} {vs : List Value} {ds : List (DataW H)} {ps : List MemPlace}, DataW.TrodAll enc C.prog W 0 (fun _ => true) true ts vs ds ps → ds.length = ts.length := by
      intro ts
      induction ts with
      | nil => intro vs ds ps h; obtain ⟨_, rfl, _⟩ := trodAll_nil h; rfl
      | cons t ts ih => intro vs ds ps h; obtain ⟨v, vs', d, ds', p, q, rfl, rfl, rfl, _, h2⟩ := trodAll_cons h; simp [ih h2]
    simpa using key hA
  refine (hc W base args ds p hval hA).mono fun e W' ⟨he, hb⟩ => ⟨_, he, ?_⟩
  exact law_post hl hub hres hvars hr hW' (hs ds hlen) hb

end Go.Proofs.YtbnipieokpeadaaDoor

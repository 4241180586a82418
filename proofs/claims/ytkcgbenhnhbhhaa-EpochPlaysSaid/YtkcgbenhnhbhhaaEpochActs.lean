import Derived.Test.YtkcgbenhnhbhhaaArgs
import Derived.Test.YtkcgbenhnhbhhaaEpoch8
namespace Go.Proofs.Ytkcgbenhnhbhhaa
open Go Go.RowKit Go.ChangeShapes Go.WideShapes Go.Deep
set_option linter.unusedVariables false

structure ActD where
  kind : Int
  least : Int
  ao : Option Addr
  n : Nat
  cap : Nat
  hs : List HanD
def fAct (a : ActD) : List Value := [.int .i64 a.kind, .int .i64 a.least, .slice a.ao a.n a.cap]
theorem len_fAct (a : ActD) : (fAct a).length = 3 := rfl

section
variable {H : Type} {enc : TypeId × Value → H} {w : World} {base : Nat} {spare : Nat → Bool} {held : Bool}
theorem open_handle (n : Nat) (cs : List Value) (y : DataW H × List MemPlace) (h : DataW.trod enc Try.prog w base spare held n 70 cs = some y) (hl : cs.length = 2) : ∃ x, cs = fH x ∧ ((Lit.int .i64 x.slot).wf = true ∧ (Lit.int .i64 x.gen).wf = true) := by
  obtain ⟨m, hc⟩ := struct_cells Try.underlying70 (by kernel_rfl) h hl
  obtain ⟨v0, z0, h0, t0⟩ := hc 0 _ rfl
  obtain ⟨v1, z1, h1, t1⟩ := hc 1 _ rfl
  obtain ⟨x0, e0, _, w0⟩ := DataW.trod_int Try.underlying3 t0
  obtain ⟨x1, e1, _, w1⟩ := DataW.trod_int Try.underlying3 t1
  simp only [List.cons.injEq, and_true] at e0 e1
  subst e0 e1
  match cs, hl with
  | [c0, c1], _ =>
    simp at h0 h1
    subst h0 h1
    exact ⟨⟨x0, x1⟩, rfl, w0, w1⟩

theorem open_act (n : Nat) (cs : List Value) (y : DataW H × List MemPlace) (h : DataW.trod enc Try.prog w base spare held n 61 cs = some y) (hl : cs.length = 3) : ∃ x : ActD, cs = fAct x ∧ ((Lit.int .i64 x.kind).wf = true ∧ (Lit.int .i64 x.least).wf = true ∧ ArgRow w fH x.ao x.n x.cap x.hs) := by
  obtain ⟨m, hc⟩ := struct_cells Try.underlying61 (by kernel_rfl) h hl
  obtain ⟨v0, z0, h0, t0⟩ := hc 0 _ rfl
  obtain ⟨v1, z1, h1, t1⟩ := hc 1 _ rfl
  obtain ⟨v2, z2, h2, t2⟩ := hc 2 _ rfl
  obtain ⟨x0, e0, _, w0⟩ := DataW.trod_int Try.underlying3 t0
  obtain ⟨x1, e1, _, w1⟩ := DataW.trod_int Try.underlying3 t1
  obtain ⟨ao, k, cap, xs, e2, ar, _⟩ := arg_rowOf (f := fH) Try.underlying56 (by kernel_rfl) (by omega) len_fH open_handle t2
  simp only [List.cons.injEq, and_true] at e0 e1 e2
  subst e0 e1 e2
  match cs, hl with
  | [c0, c1, c2], _ =>
    simp at h0 h1 h2
    subst h0 h1 h2
    exact ⟨⟨x0, x1, ao, k, cap, xs⟩, rfl, w0, w1, ar⟩
end

theorem one_fH (xs : List HanD) : ∀ u ∈ xs.flatMap fH, u.oneCell' = true := by
  intro u hu
  rw [List.mem_flatMap] at hu
  obtain ⟨x, _, hx⟩ := hu
  simp [fH] at hx
  rcases hx with rfl | rfl <;> rfl

theorem act_some {w : World} {ao : Option Addr} {n cap k : Nat} {acts : List ActD} (h : ArgRow w fAct ao n cap acts) (hk : k < n) : ∃ b off, ao = some ⟨b, off, none⟩ := by
  obtain ⟨b, off, e, _⟩ := h.cells (by omega)
  exact ⟨b, off, e⟩
theorem act_at {w : World} {b off n cap k : Nat} {acts : List ActD} {a : ActD} (h : ArgRow w fAct (some ⟨b, off, none⟩) n cap acts) (hk : acts[k]? = some a) :
    w.cell? ⟨b, off + k * 3, none⟩ = some (.int .i64 a.kind) ∧ w.cell? ⟨b, off + k * 3 + 1, none⟩ = some (.int .i64 a.least) ∧ w.cell? ⟨b, off + k * 3 + 2, none⟩ = some (.slice a.ao a.n a.cap) := by
  have h0 := (List.getElem?_eq_some_iff.1 hk).1
  have hl := h.len
  obtain ⟨b', off', e, hc⟩ := h.cells (by omega)
  simp only [Option.some.injEq, Addr.mk.injEq, and_true] at e
  obtain ⟨rfl, rfl⟩ := e
  refine ⟨?_, ?_, ?_⟩
  · have := hc (k * 3 + 0) (.int .i64 a.kind) (by rw [get_flat len_fAct acts k 0 a hk (by omega)]; rfl)
    simpa using this
  · have := hc (k * 3 + 1) (.int .i64 a.least) (by rw [get_flat len_fAct acts k 1 a hk (by omega)]; rfl)
    rw [← Nat.add_assoc] at this; exact this
  · have := hc (k * 3 + 2) (.slice a.ao a.n a.cap) (by rw [get_flat len_fAct acts k 2 a hk (by omega)]; rfl)
    rw [← Nat.add_assoc] at this; exact this

end Go.Proofs.Ytkcgbenhnhbhhaa

import Derived.Test.YtbnipieokpeadaaDoorLaw2
import Derived.Test.YtbnipieokpeadaaDoorArgs
import Derived.Test.YtbnipieokpeadaaDoorTiny
namespace Go.Proofs.YtbnipieokpeadaaDoor
open Go Go.RowKit Go.ChangeShapes Go.WideShapes Go.Deep
set_option linter.unusedVariables false
set_option linter.unusedSimpArgs false

section
variable {H : Type} {enc : TypeId × Value → H} {w : World} {base : Nat} {spare : Nat → Bool} {held : Bool}
set_option maxRecDepth 100000 in
theorem open_tiny (n : Nat) (cs : List Value) (y : DataW H × List MemPlace) (h : DataW.trod enc Tryd.prog w base spare held n 24 cs = some y) (hl : cs.length = 5) : ∃ x : TinyD, cs = fT x ∧ TinyOk x := by
  obtain ⟨m, hc⟩ := struct_cells Tryd.underlying24 (by kernel_rfl) h hl
  obtain ⟨v0, z0, h0, t0⟩ := hc 0 _ rfl
  obtain ⟨v1, z1, h1, t1⟩ := hc 1 _ rfl
  obtain ⟨v2, z2, h2, t2⟩ := hc 2 _ rfl
  obtain ⟨v3, z3, h3, t3⟩ := hc 3 _ rfl
  obtain ⟨v4, z4, h4, t4⟩ := hc 4 _ rfl
  obtain ⟨x0, e0, _, w0⟩ := DataW.trod_int Tryd.underlying5 t0
  obtain ⟨x1, e1, _, w1⟩ := DataW.trod_int Tryd.underlying5 t1
  obtain ⟨x2, e2, _, w2⟩ := DataW.trod_int Tryd.underlying5 t2
  obtain ⟨x3, e3, _, w3⟩ := DataW.trod_int Tryd.underlying5 t3
  obtain ⟨x4, e4, _, w4⟩ := DataW.trod_int Tryd.underlying5 t4
  simp only [List.cons.injEq, and_true] at e0 e1 e2 e3 e4
  subst e0 e1 e2 e3 e4
  match cs, hl with
  | [c0, c1, c2, c3, c4], _ =>
    simp at h0 h1 h2 h3 h4
    subst h0 h1 h2 h3 h4
    exact ⟨⟨x0, x1, x2, x3, x4⟩, rfl, (wf_u8 w0).1, (wf_u8 w0).2, (wf_u8 w1).1, (wf_u8 w1).2, (wf_u8 w2).1, (wf_u8 w2).2, (wf_u8 w3).1, (wf_u8 w3).2, (wf_u8 w4).1, (wf_u8 w4).2⟩
set_option maxRecDepth 100000 in
theorem arg_tiny {v : Value} {d : DataW H} {ps : List MemPlace} {b0 : Nat} (hval : Value.okWide Tryd.prog w .any b0 24 v) (hd : DataW.Trod enc Tryd.prog w base spare held 24 v d ps) :
    ∃ x : TinyD, v = .agg #[.int .u8 x.n, .int .u8 x.r, .int .u8 x.node, .int .u8 x.up, .int .u8 x.name] ∧ TinyOk x := by
  obtain ⟨cs, rfl, hsz⟩ := okWide_struct Tryd.underlying24 hval
  obtain ⟨fuel, hf⟩ := hd
  have hC : Tryd.prog.cellsOf 24 = 5 := by kernel_rfl
  obtain ⟨x, hx, hok⟩ := open_tiny fuel _ _ hf (by simp [Value.cells, hsz, hC])
  refine ⟨x, ?_, hok⟩
  obtain ⟨l⟩ := cs
  simp only [Value.cells] at hx
  rw [hx]
  rfl
end

end Go.Proofs.YtbnipieokpeadaaDoor

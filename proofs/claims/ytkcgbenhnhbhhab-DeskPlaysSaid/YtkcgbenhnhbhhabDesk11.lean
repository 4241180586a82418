import Derived.Test.YtkcgbenhnhbhhabDesk10
namespace Go.Proofs.Ytkcgbenhnhbhhab
open Go Go.RowKit Go.ChangeShapes Go.WideShapes Go.Deep
set_option linter.unusedVariables false
set_option linter.unusedSimpArgs false

structure DAct where
  kind : Int
  client : Int
  n : Int
def fDA (a : DAct) : List Value := [.int .i64 a.kind, .int .i64 a.client, .int .i64 a.n]
theorem len_fDA (a : DAct) : (fDA a).length = 3 := rfl

section
variable {H : Type} {enc : TypeId × Value → H} {w : World} {base : Nat} {spare : Nat → Bool} {held : Bool}
theorem open_dact (n : Nat) (cs : List Value) (y : DataW H × List MemPlace) (h : DataW.trod enc Try.prog w base spare held n 29 cs = some y) (hl : cs.length = 3) : ∃ x : DAct, cs = fDA x ∧ ((Lit.int .i64 x.kind).wf = true ∧ (Lit.int .i64 x.client).wf = true ∧ (Lit.int .i64 x.n).wf = true) := by
  obtain ⟨m, hc⟩ := struct_cells Try.underlying29 (by kernel_rfl) h hl
  obtain ⟨v0, z0, h0, t0⟩ := hc 0 _ rfl
  obtain ⟨v1, z1, h1, t1⟩ := hc 1 _ rfl
  obtain ⟨v2, z2, h2, t2⟩ := hc 2 _ rfl
  obtain ⟨x0, e0, _, w0⟩ := DataW.trod_int Try.underlying3 t0
  obtain ⟨x1, e1, _, w1⟩ := DataW.trod_int Try.underlying3 t1
  obtain ⟨x2, e2, _, w2⟩ := DataW.trod_int Try.underlying3 t2
  simp only [List.cons.injEq, and_true] at e0 e1 e2
  subst e0 e1 e2
  match cs, hl with
  | [c0, c1, c2], _ =>
    simp at h0 h1 h2
    subst h0 h1 h2
    exact ⟨⟨x0, x1, x2⟩, rfl, w0, w1, w2⟩
end

/-- The desk is as the document's; e: by how many accesses it is behind. -/
structure DRel (n : Nat) (e : Int) (D : DeskD) (R : RD) : Prop where
  acc : D.acc + e = R.cnt
  acc0 : 0 ≤ D.acc
  root : D.n = R.root
  ep : D.epoch = R.epoch
  pins : D.pins = R.pins
  plen : R.pins.length = n
  most : D.most = R.most
  shut : D.closed = R.shut
  call : D.msgs.map MsgD.call = R.l
  node : D.msgs.map MsgD.node = R.l
  room : (R.l.length : Int) ≤ R.most
  small : R.most ≤ 8
  rn : R.n = n
  dlen : D.reps.length = n
  rlen : R.reps.length = n
  rep : ∀ (i : Nat) (r : RepD) (z : Int), D.reps[i]? = some r → R.reps[i]? = some z → r.lies = decide (0 ≤ z) ∧ (0 ≤ z → r.node = z ∧ r.version = 3)

theorem DRel.new (n : Nat) (most : Int) (h0 : 0 ≤ most) (h8 : most ≤ 8) : DRel n 0 (newD n most) (newR n most) := by
  refine ⟨by simp [newD, newR], by simp [newD], rfl, rfl, rfl, by simp [newR], rfl, rfl, rfl, rfl, by simpa [newR] using h0, h8, rfl, by simp [newD], by simp [newR], fun i r z h1 h2 => ?_⟩
  simp only [newD, newR, List.getElem?_replicate] at h1 h2
  split at h1
  · next hi =>
    rw [if_pos hi] at h2
    simp only [Option.some.injEq] at h1 h2
    subst h1 h2
    exact ⟨rfl, fun h => by omega⟩
  · cases h1

theorem DRel.count {n : Nat} {D : DeskD} {R : RD} (h : DRel n 0 D R) : DRel n 1 D { R with cnt := R.cnt + 1 } :=
  { h with acc := by have := h.acc; simp only [] at this ⊢; omega }
theorem DRel.tick {n : Nat} {D : DeskD} {R : RD} (h : DRel n 1 D R) : DRel n 0 (tick D) R :=
  { h with acc := by have := h.acc; simp only [Go.Proofs.Ytkcgbenhnhbhhab.tick] at this ⊢; omega, acc0 := by have := h.acc0; simp only [Go.Proofs.Ytkcgbenhnhbhhab.tick]; omega }
theorem DRel.setRoot {n : Nat} {e x ks kg ss sg : Int} {D : DeskD} {R : RD} (h : DRel n e D R) : DRel n e { D with n := x, ks := ks, kg := kg, ss := ss, sg := sg } { R with root := x } := { h with root := rfl }
theorem DRel.setEpoch {n : Nat} {e x : Int} {D : DeskD} {R : RD} (h : DRel n e D R) : DRel n e { D with epoch := x } { R with epoch := x } := { h with ep := rfl }
theorem DRel.setPin {n : Nat} {e x : Int} {D : DeskD} {R : RD} (i : Nat) (h : DRel n e D R) : DRel n e { D with pins := D.pins.set i x } { R with pins := R.pins.set i x } :=
  { h with pins := by simp only []; rw [h.pins], plen := by simp only [List.length_set]; exact h.plen }
theorem DRel.close {n : Nat} {e : Int} {D : DeskD} {R : RD} (h : DRel n e D R) : DRel n e { D with closed := true } { R with shut := true } := { h with shut := rfl }
theorem DRel.send {n : Nat} {e : Int} {D : DeskD} {R : RD} {m : MsgD} {x : Int} (h : DRel n e D R) (h1 : m.call = x) (h2 : m.node = x) (hr : (R.l.length : Int) < R.most) : DRel n e { D with msgs := D.msgs ++ [m] } { R with l := R.l ++ [x] } :=
  { h with call := by simp only [List.map_append, h.call]; simp [h1], node := by simp only [List.map_append, h.node]; simp [h2], room := by simp only [List.length_append, List.length_singleton]; push_cast; omega }
theorem DRel.recv {n : Nat} {e : Int} {D : DeskD} {R : RD} {m : MsgD} {ms : List MsgD} (h : DRel n e D R) (hm : D.msgs = m :: ms) : ∃ z zs, R.l = z :: zs ∧ m.call = z ∧ m.node = z ∧ DRel n e { D with msgs := ms } { R with l := zs } := by
  have h1 := h.call
  have h2 := h.node
  rw [hm, List.map_cons] at h1 h2
  refine ⟨m.call, ms.map MsgD.call, h1.symm, rfl, ?_, { h with call := rfl, node := ?_, room := ?_ }⟩
  · rw [← h2, List.cons.injEq] at h1
    exact h1.1.symm
  · rw [← h2, List.cons.injEq] at h1
    exact h1.2.symm
  · have := h.room
    rw [← h1] at this
    simp only [List.length_cons] at this ⊢
    push_cast at this
    omega
theorem DRel.setRep {n : Nat} {e z : Int} {D : DeskD} {R : RD} {r : RepD} (i : Nat) (h : DRel n e D R) (h1 : r.lies = decide (0 ≤ z)) (h2 : 0 ≤ z → r.node = z ∧ r.version = 3) : DRel n e { D with reps := D.reps.set i r } { R with reps := R.reps.set i z } :=
  { h with
    dlen := by
      simp only [List.length_set]; exact h.dlen
    rlen := by
      simp only [List.length_set]; exact h.rlen
    rep := fun j r' z' hr hz => by
      simp only [List.getElem?_set] at hr hz
      by_cases hj : i = j
      · rw [if_pos hj] at hr hz
        split at hr
        · split at hz
          · simp only [Option.some.injEq] at hr hz
            subst hr hz
            exact ⟨h1, h2⟩
          · cases hz
        · cases hr
      · rw [if_neg hj] at hr hz
        exact h.rep j r' z' hr hz }

end Go.Proofs.Ytkcgbenhnhbhhab

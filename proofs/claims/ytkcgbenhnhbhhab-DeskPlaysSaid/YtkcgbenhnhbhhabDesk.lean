import Derived.Test.YtkcgbenhnhbhhabRingM2
namespace Go.Proofs.Ytkcgbenhnhbhhab
open Go Go.RowKit
set_option linter.unusedVariables false
set_option linter.unusedSimpArgs false

/-- A reply that lies, or doesn't; of its lists the headers alone. -/
structure RepD where
  e : Int
  version : Int
  node : Int
  kao : Option Addr
  kn : Nat
  kc : Nat
  dao : Option Addr
  dn : Nat
  dc : Nat
  lies : Bool
def fR (r : RepD) : List Value := [.int .i64 r.e, .int .i64 r.version, .int .i64 r.node, .slice r.kao r.kn r.kc, .slice r.dao r.dn r.dc, .bool r.lies]
def aggA (r : RepD) : Value := .agg #[.int .i64 r.e, .int .i64 r.version, .int .i64 r.node, .slice r.kao r.kn r.kc, .slice r.dao r.dn r.dc]
def zeroR : RepD := ⟨0, 0, 0, none, 0, 0, none, 0, 0, false⟩

/-- What lies on a desk. -/
structure DeskD where
  n : Int
  ks : Int
  kg : Int
  ss : Int
  sg : Int
  epoch : Int
  pins : List Int
  reps : List RepD
  most : Int
  msgs : List MsgD
  closed : Bool
  acc : Int

def deskC (D : DeskD) (vp vr : Value) (q : Nat) : Array Value := #[.int .i64 D.n, .int .i64 D.ks, .int .i64 D.kg, .int .i64 D.ss, .int .i64 D.sg, .int .i64 D.epoch, vp, vr, .pointer (some ⟨q, 0, none⟩), .int .i64 D.acc]

/-- A desk at block d. -/
def deskP (d : Nat) (D : DeskD) : HProp :=
  ex fun vp => ex fun vr => ex fun q => all [own d (.cells (deskC D vp vr q) 69 (0, 0)), rowT fI vp 3 1 D.pins, rowT fR vr 75 6 D.reps, ringM q D.most D.msgs D.closed]
theorem deskP_I {w : World} {l : List HProp} {d : Nat} {D : DeskD} {vp vr : Value} {q : Nat}
    (hs : Sat w (own d (.cells (deskC D vp vr q) 69 (0, 0)) :: rowT fI vp 3 1 D.pins :: rowT fR vr 75 6 D.reps :: ringM q D.most D.msgs D.closed :: l)) : Sat w (deskP d D :: l) :=
  Sat.exI vp (Sat.exI vr (Sat.exI q (Sat.allI hs)))
theorem deskP_E {w : World} {l : List HProp} {d : Nat} {D : DeskD} (hs : Sat w (deskP d D :: l)) :
    ∃ vp vr q, Sat w (own d (.cells (deskC D vp vr q) 69 (0, 0)) :: rowT fI vp 3 1 D.pins :: rowT fR vr 75 6 D.reps :: ringM q D.most D.msgs D.closed :: l) := by
  obtain ⟨vp, h⟩ := hs.exE
  obtain ⟨vr, h⟩ := h.exE
  obtain ⟨q, h⟩ := h.exE
  exact ⟨vp, vr, q, h.allE⟩

/-! ### the cells -/
theorem at_int {w : World} {d k n cap i : Nat} {g off : Nat} (hc : w.cell? ⟨d, k, none⟩ = some (.slice (some ⟨g, off, none⟩) n cap)) (hi : i < n) :
    Calls Try.prog 24 #[.pointer (some ⟨d, k, none⟩), .int .i64 i] w fun e w' => e = .returned (.pointer (some ⟨g, off + i, none⟩)) ∧ w = w' := by
  have i0 : (0 : Int) ≤ (i : Int) := by omega
  have i1 : (i : Int) < (n : Int) := by omega
  go_enter Try.func24, Try.ntmps24
  go_wp2
  go_ret
  exact ⟨rfl, rfl⟩
theorem at_int_not {w : World} {d k n cap : Nat} {i : Int} {ao : Option Addr} (hc : w.cell? ⟨d, k, none⟩ = some (.slice ao n cap)) (hi : i < 0 ∨ (n : Int) ≤ i) :
    Calls Try.prog 24 #[.pointer (some ⟨d, k, none⟩), .int .i64 i] w fun e w' => e = .returned (.pointer none) ∧ w = w' := by
  rcases hi with hi | hi
  · go_enter Try.func24, Try.ntmps24
    go_wp2
    go_ret
    exact ⟨rfl, rfl⟩
  · have h0 : 0 ≤ i := by omega
    go_enter Try.func24, Try.ntmps24
    go_wp2
    go_ret
    exact ⟨rfl, rfl⟩
theorem at_rep {w : World} {d k n cap i : Nat} {g off : Nat} (hc : w.cell? ⟨d, k, none⟩ = some (.slice (some ⟨g, off, none⟩) n cap)) (hi : i < n) :
    Calls Try.prog 28 #[.pointer (some ⟨d, k, none⟩), .int .i64 i] w fun e w' => e = .returned (.pointer (some ⟨g, off + i * 6, none⟩)) ∧ w = w' := by
  have i0 : (0 : Int) ≤ (i : Int) := by omega
  have i1 : (i : Int) < (n : Int) := by omega
  go_enter Try.func28, Try.ntmps28
  go_wp2
  go_ret
  exact ⟨rfl, rfl⟩
theorem at_rep_not {w : World} {d k n cap : Nat} {i : Int} {ao : Option Addr} (hc : w.cell? ⟨d, k, none⟩ = some (.slice ao n cap)) (hi : i < 0 ∨ (n : Int) ≤ i) :
    Calls Try.prog 28 #[.pointer (some ⟨d, k, none⟩), .int .i64 i] w fun e w' => e = .returned (.pointer none) ∧ w = w' := by
  rcases hi with hi | hi
  · go_enter Try.func28, Try.ntmps28
    go_wp2
    go_ret
    exact ⟨rfl, rfl⟩
  · have h0 : 0 ≤ i := by omega
    go_enter Try.func28, Try.ntmps28
    go_wp2
    go_ret
    exact ⟨rfl, rfl⟩

end Go.Proofs.Ytkcgbenhnhbhhab

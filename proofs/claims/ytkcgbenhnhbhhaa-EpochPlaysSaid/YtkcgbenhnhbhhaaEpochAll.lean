import Derived.Test.YtkcgbenhnhbhhaaEpochThree
import Derived.Deep.CutRange
import Derived.Deep.CutBlock
namespace Go.Proofs.Ytkcgbenhnhbhhaa
open Go Go.RowKit
set_option linter.unusedVariables false
set_option linter.unusedSimpArgs false

def seqH (a : Int) (n : Nat) : List HanD := (List.range n).map fun (i : Nat) => (⟨a + (i : Int), 1⟩ : HanD)
theorem seqH_len (a : Int) (n : Nat) : (seqH a n).length = n := by simp [seqH]
theorem seqH_get (a : Int) {n i : Nat} (h : i < n) : (seqH a n)[i]? = some ⟨a + i, 1⟩ := by simp [seqH, h]
theorem seqH_snoc (a : Int) (n : Nat) : seqH a (n + 1) = seqH a n ++ [⟨a + n, 1⟩] := by simp [seqH, List.range_succ]
theorem seqH_append (a : Int) (n : Nat) : ∀ m, seqH a n ++ seqH (a + n) m = seqH a (n + m)
  | 0 => by simp [seqH]
  | m + 1 => by rw [seqH_snoc, ← List.append_assoc, seqH_append a n m, ← Nat.add_assoc, seqH_snoc]; simp [Int.add_assoc]
theorem seqH_take (a : Int) {n m : Nat} (h : m ≤ n) : (seqH a n).take m = seqH a m := by
  obtain ⟨k, rfl⟩ : ∃ k, n = m + k := ⟨n - m, by omega⟩
  rw [← seqH_append, List.take_left' (seqH_len a m)]
theorem seqH_drop (a : Int) {n m : Nat} (h : m ≤ n) : (seqH a n).drop m = seqH (a + m) (n - m) := by
  obtain ⟨k, rfl⟩ : ∃ k, n = m + k := ⟨n - m, by omega⟩
  rw [← seqH_append, List.drop_left' (seqH_len a m)]
  congr 1; omega

def Srt (ws : List WaitD) : Prop := ws.Pairwise fun x y => x.by_ ≤ y.by_
theorem may_le {now least : Int} {x y : WaitD} (h : x.by_ ≤ y.by_) (hy : may now least y = true) : may now least x = true := by
  unfold may at hy ⊢
  simp only [Bool.and_eq_true, decide_eq_true_eq] at hy ⊢
  omega
theorem may_split (now least : Int) : ∀ ws : List WaitD, Srt ws → ∃ m, m ≤ ws.length ∧ ws.filter (may now least) = ws.take m ∧ (ws.filter fun x => !may now least x) = ws.drop m
  | [], _ => ⟨0, by simp, rfl, rfl⟩
  | x :: xs, h => by
    rw [Srt, List.pairwise_cons] at h
    by_cases hx : may now least x = true
    · obtain ⟨m, h1, h2, h3⟩ := may_split now least xs h.2
      exact ⟨m + 1, by simpa using h1, by simp [hx, h2], by simp [hx, h3]⟩
    · have hall : ∀ y ∈ x :: xs, ¬ may now least y = true := by
        intro y hy
        rcases List.mem_cons.1 hy with rfl | hy
        · exact hx
        · exact fun h' => hx (may_le (h.1 y hy) h')
      exact ⟨0, by simp, by rw [List.filter_eq_nil_iff.2 hall]; rfl, by rw [List.filter_eq_self.2 (fun y hy => by simpa using hall y hy)]; rfl⟩
theorem pw_all {α : Type} {R : α → α → Prop} (h : ∀ x y, R x y) : ∀ l : List α, l.Pairwise R
  | [] => List.Pairwise.nil
  | x :: xs => List.Pairwise.cons (fun y _ => h x y) (pw_all h xs)
theorem srt_drop {ws : List WaitD} (h : Srt ws) (m : Nat) : Srt (ws.drop m) := List.Pairwise.sublist (List.drop_sublist m ws) h
theorem srt_retire {ws : List WaitD} {hs : List HanD} {now : Int} (h : Srt ws) (hb : ∀ x ∈ ws, x.by_ ≤ now) : Srt (ws ++ hs.map fun h => ⟨h.slot, h.gen, now⟩) := by
  rw [Srt, List.pairwise_append]
  refine ⟨h, ?_, ?_⟩
  · rw [List.pairwise_map]
    exact pw_all (fun _ _ => Int.le_refl _) _
  · intro x hx y hy
    rw [List.mem_map] at hy
    obtain ⟨z, _, rfl⟩ := hy
    exact hb x hx

/-- What the law knows of what waits: it is in order, and all that was retired and has not gone. -/
structure AllOk (ws : List WaitD) (now : Int) (G : Nat) : Prop where
  seq : ws.map WaitD.h = seqH (G + 1) ws.length
  srt : Srt ws
  by_ : ∀ x ∈ ws, x.by_ ≤ now
theorem AllOk.next {ws : List WaitD} {now : Int} {G : Nat} (h : AllOk ws now G) : AllOk ws (now + 1) G := ⟨h.seq, h.srt, fun x hx => by have := h.by_ x hx; omega⟩
theorem AllOk.put {ws : List WaitD} {now : Int} {G N n : Nat} (h : AllOk ws now G) (hN : N = G + ws.length) : AllOk (ws ++ (seqH ((N : Int) + 1) n).map fun h => ⟨h.slot, h.gen, now⟩) now G := by
  refine ⟨?_, srt_retire h.srt h.by_, fun x hx => ?_⟩
  · rw [map_retired, h.seq, List.length_append, List.length_map, seqH_len, ← seqH_append]
    congr 2
    subst hN; push_cast; omega
  · rw [List.mem_append, List.mem_map] at hx
    rcases hx with hx | ⟨y, _, rfl⟩
    · exact h.by_ x hx
    · exact Int.le_refl _
theorem AllOk.free {ws : List WaitD} {now : Int} {G : Nat} (h : AllOk ws now G) (least : Int) :
    ∃ m, m ≤ ws.length ∧ (ws.filter (may now least)).map WaitD.h = seqH (G + 1) m ∧ (ws.filter fun x => !may now least x) = ws.drop m ∧ AllOk (ws.drop m) now (G + m) := by
  obtain ⟨m, h1, h2, h3⟩ := may_split now least ws h.srt
  refine ⟨m, h1, ?_, h3, ?_, srt_drop h.srt m, fun x hx => h.by_ x (List.mem_of_mem_drop hx)⟩
  · rw [h2, List.map_take, h.seq, seqH_take _ h1]
  · rw [List.map_drop, h.seq, seqH_drop _ h1, List.length_drop]
    congr 1; push_cast; omega
theorem AllOk.get {ws : List WaitD} {now : Int} {G i : Nat} (h : AllOk ws now G) (hi : i < ws.length) : (ws.map WaitD.h)[i]? = some ⟨(G : Int) + i + 1, 1⟩ := by
  rw [h.seq, seqH_get _ hi]
  congr 2; omega

end Go.Proofs.Ytkcgbenhnhbhhaa

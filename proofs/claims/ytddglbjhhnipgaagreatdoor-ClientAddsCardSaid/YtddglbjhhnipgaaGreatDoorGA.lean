import Derived.WalkKit
import Derived.ArgAppend
import Derived.Deep.Draws
import Derived.Lib.Hide
import Derived.Deep.QuietTactic
import Derived.BigQuiet
import Derived.Deep.RegionHeld3
import Derived.Deep.RegionLaw
import Derived.Deep.DrawnRows
import Derived.Test.YtddglbjhhnipgaaGreatDoorRows
import Derived.ProofKit
import Derived.OpenShut
import Derived.WideKeyArgs
import Derived.Carry
import Derived.Deep.CutBlock
import Derived.Deep.DeepCutAuto
import Derived.ChangeSlices
import Derived.Handed
import Derived.LaidMore
import Derived.Lay
import Derived.Lib.SmallJoins
import Derived.Deep.Slices
import Derived.Deep.Fields
namespace Go.Proofs.YtddglbjhhnipgaaGreatDoor
open Go Go.RowKit
open Go.ChangeShapes Go.WideShapes Go.ChangeAt Go.RowKit
open Go Go.RowKit Go.ChangeShapes Go.WideShapes Go.Deep
set_option linter.unusedVariables false
set_option linter.unusedSimpArgs false
set_option maxRecDepth 100000
set_option maxHeartbeats 8000000
/-
 SEPARATION: assertions on parts of the heap, block by block. 'Sat w l': parts of w's heap, apart from each other, meet the assertions of the list l. Plain lemmas; no program in sight.
-/
theorem quiet_add_left {P : Program} {f : FuncId} {args : Array Value} {w : World} {a n : Nat} {v : Value}
   (h : Calls P f args (w.drewN (a + n)) fun e w' => e = .returned v ∧ w.drewN (a + n) = w') :
   Calls P f args (w.drewN (a + n)) fun e w'' => e = .returned v ∧ ∃ m, w'' = w.drewN (a + m) :=
 h.mono fun _ _ ⟨he, hm⟩ => ⟨he, n, hm.symm⟩
theorem quiet_left {P : Program} {f : FuncId} {args : Array Value} {w : World} {n : Nat} {v : Value}
   (h : Calls P f args (w.drewN n) fun e w' => e = .returned v ∧ w.drewN n = w') : Calls P f args (w.drewN n) fun e w'' => e = .returned v ∧ ∃ m, w'' = w.drewN m :=
 h.mono fun _ _ ⟨he, hm⟩ => ⟨he, n, hm.symm⟩
/-- A part of a heap; an assertion on one. -/
def Hp := Nat → Option Obj
def HProp := Hp → Prop
def emp : HProp := fun h => ∀ b, h b = none
def own (b : Nat) (o : Obj) : HProp := fun h => h b = some o ∧ ∀ k, k ≠ b → h k = none
def star (P Q : HProp) : HProp := fun h => ∃ h1 h2 : Hp, (∀ b, h1 b = none ∨ h2 b = none) ∧ (∀ b, h b = (h1 b).or (h2 b)) ∧ P h1 ∧ Q h2
def lift (p : Prop) : HProp := fun h => p ∧ emp h
def ex {α : Type} (P : α → HProp) : HProp := fun h => ∃ a, P a h
def stars : List HProp → HProp
 | [] => emp
 | A :: l => star A (stars l)
def all (l : List HProp) : HProp := stars l
def Sat (w : World) (l : List HProp) : Prop := ∃ h : Hp, stars l h ∧ ∀ b o, h b = some o → w.heap[b]? = some o
/-- Beside the heap nothing has turned; no block has gone. -/
structure Kp (w w' : World) : Prop where
 os : w'.os = w.os
 tape : w'.tape = w.tape
 output : w'.output = w.output
 size : w.heap.size ≤ w'.heap.size
theorem Kp.refl (w : World) : Kp w w := ⟨rfl, rfl, rfl, Nat.le_refl _⟩
theorem Kp.trans {a b c : World} (h : Kp a b) (k : Kp b c) : Kp a c := ⟨k.os.trans h.os, k.tape.trans h.tape, k.output.trans h.output, Nat.le_trans h.size k.size⟩
theorem Kp.alloc {a w : World} (h : Kp a w) (o : Obj) : Kp a (w.alloc o) := h.trans ⟨rfl, rfl, rfl, by simp⟩
theorem Kp.setCell {a w : World} (h : Kp a w) (p : Addr) (v : Value) : Kp a (w.setCell p v) := h.trans ⟨rfl, rfl, rfl, by simp⟩
theorem Kp.setRow {a w : World} (h : Kp a w) (g : Nat) (cs : Array Value) : Kp a (w.setRow g cs) := h.trans ⟨rfl, rfl, rfl, by simp⟩
theorem Kp.drew {a w : World} (h : Kp a w) : Kp a w.drew := h.trans ⟨rfl, rfl, rfl, Nat.le_refl _⟩
theorem Kp.drewN {a w : World} (h : Kp a w) (n : Nat) : Kp a (w.drewN n) := h.trans ⟨rfl, rfl, rfl, Nat.le_refl _⟩
theorem star_intro {P Q : HProp} {h1 h2 : Hp} (hd : ∀ b, h1 b = none ∨ h2 b = none) (hp : P h1) (hq : Q h2) : star P Q (fun b => (h1 b).or (h2 b)) := ⟨h1, h2, hd, fun _ => rfl, hp, hq⟩
theorem star_mono {P P' Q Q' : HProp} {h : Hp} (hp : ∀ h, P h → P' h) (hq : ∀ h, Q h → Q' h) : star P Q h → star P' Q' h := by
 rintro ⟨h1, h2, hd, he, a, b⟩
 exact ⟨h1, h2, hd, he, hp _ a, hq _ b⟩
theorem star_comm {P Q : HProp} {h : Hp} : star P Q h → star Q P h := by
 rintro ⟨h1, h2, hd, he, a, b⟩
 refine ⟨h2, h1, fun x => (hd x).symm, fun x => ?_, b, a⟩
 rw [he]
 rcases hd x with e | e <;> simp [e]
theorem star_left {P Q R : HProp} {h : Hp} : star P (star Q R) h → star Q (star P R) h := by
 rintro ⟨h1, h23, hd, he, a, h2, h3, hd', he', b, c⟩
 have d12 : ∀ x, h1 x = none ∨ h2 x = none := fun x => by
   rcases hd x with e | e
   · exact .inl e
   · rw [he'] at e; right; cases h : h2 x <;> simp_all
 have d13 : ∀ x, h1 x = none ∨ h3 x = none := fun x => by
   rcases hd x with e | e
   · exact .inl e
   · rw [he'] at e; right; cases h : h2 x <;> simp_all
 refine ⟨h2, fun x => (h1 x).or (h3 x), fun x => ?_, fun x => ?_, b, star_intro d13 a c⟩
 · rcases d12 x with e | e
   · rcases hd' x with e' | e'
     · exact .inl e'
     · exact .inr (by simp [e, e'])
   · exact .inl e
 · rw [he, he']
   rcases d12 x with e | e <;> simp [e]
theorem star_assoc {P Q R : HProp} {h : Hp} (hh : star (star P Q) R h) : star P (star Q R) h := by
 have := star_comm hh
 have := star_left this
 exact star_mono (fun _ x => x) (fun _ x => star_comm x) this
theorem star_assoc' {P Q R : HProp} {h : Hp} (hh : star P (star Q R) h) : star (star P Q) R h := by
 have := star_left hh
 have := star_mono (fun _ x => x) (fun _ x => star_comm x) this
 have := star_left this
 exact star_comm (star_mono (fun _ x => x) (fun _ x => star_comm x) this)
theorem star_emp {P : HProp} {h : Hp} (hp : P h) : star P emp h := ⟨h, fun _ => none, fun _ => .inr rfl, fun b => by simp, hp, fun _ => rfl⟩
theorem emp_star {P : HProp} {h : Hp} (hp : star emp P h) : P h := by
 obtain ⟨h1, h2, _, he, a, b⟩ := hp
 have : h = h2 := funext fun x => by rw [he, a x]; simp
 rw [this]; exact b
theorem star_of_emp {P : HProp} {h : Hp} (hp : P h) : star emp P h := star_comm (star_emp hp)
theorem Sat.swap {w : World} {A B : HProp} {l : List HProp} : Sat w (A :: B :: l) → Sat w (B :: A :: l) := by
 rintro ⟨h, hs, hw⟩
 exact ⟨h, star_left hs, hw⟩
theorem Sat.mono {w : World} {l l' : List HProp} (hs : Sat w l) (h : ∀ x, stars l x → stars l' x) : Sat w l' := by
 obtain ⟨x, a, b⟩ := hs
 exact ⟨x, h _ a, b⟩
theorem Sat.head {w : World} {A B : HProp} {l : List HProp} (hs : Sat w (A :: l)) (h : ∀ x, A x → B x) : Sat w (B :: l) :=
 hs.mono fun _ => star_mono h fun _ x => x
/-- The n-th assertion is brought ahead. -/
def pullL : Nat → List HProp → List HProp
 | 0, l => l
 | _, [] => []
 | n + 1, A :: l => match pullL n l with
   | [] => [A]
   | B :: l' => B :: A :: l'
theorem stars_pull : ∀ (n : Nat) (l : List HProp) (h : Hp), stars l h → stars (pullL n l) h
 | 0, _, _, hs => hs
 | n + 1, [], _, hs => hs
 | n + 1, A :: l, h, hs => by
   have hs' : star A (stars (pullL n l)) h := star_mono (fun _ x => x) (fun x => stars_pull n l x) hs
   unfold pullL
   cases hl : pullL n l with
   | nil => rw [hl] at hs'; exact hs'
   | cons B l' => rw [hl] at hs'; exact star_left hs'
theorem Sat.pull {w : World} {l : List HProp} (n : Nat) (hs : Sat w l) : Sat w (pullL n l) := hs.mono fun x => stars_pull n l x
/-- The first assertion is put behind n others. -/
def pushL : Nat → List HProp → List HProp
 | 0, l => l
 | n + 1, A :: B :: l => B :: pushL n (A :: l)
 | _ + 1, l => l
theorem stars_push : ∀ (n : Nat) (l : List HProp) (h : Hp), stars l h → stars (pushL n l) h
 | 0, _, _, hs => by unfold pushL; exact hs
 | n + 1, [], _, hs => by unfold pushL; exact hs
 | n + 1, [A], _, hs => by unfold pushL; exact hs
 | n + 1, A :: B :: l, h, hs => by
   unfold pushL
   exact star_mono (fun _ x => x) (fun x hx => stars_push n (A :: l) x hx) (star_left hs)
theorem Sat.push {w : World} {l : List HProp} (n : Nat) (hs : Sat w l) : Sat w (pushL n l) := hs.mono fun x => stars_push n l x
theorem Sat.tail {w : World} {A : HProp} {l : List HProp} (hs : Sat w (A :: l)) : Sat w l := by
 obtain ⟨h, ⟨h1, h2, hd, he, _, b⟩, hw⟩ := hs
 refine ⟨h2, b, fun x o hx => hw x o ?_⟩
 rw [he, (hd x).resolve_right (by rw [hx]; simp)]
 simpa using hx
theorem Sat.split {w : World} {A B : HProp} {l : List HProp} (hs : Sat w (star A B :: l)) : Sat w (A :: B :: l) := hs.mono fun _ => star_assoc
theorem Sat.join {w : World} {A B : HProp} {l : List HProp} (hs : Sat w (A :: B :: l)) : Sat w (star A B :: l) := hs.mono fun _ => star_assoc'
theorem stars_append : ∀ (l F : List HProp) (h : Hp), star (stars l) (stars F) h → stars (l ++ F) h
 | [], _, _, hs => emp_star hs
 | _ :: l, F, _, hs => star_mono (fun _ x => x) (fun x => stars_append l F x) (star_assoc hs)
theorem stars_append' : ∀ (l F : List HProp) (h : Hp), stars (l ++ F) h → star (stars l) (stars F) h
 | [], _, _, hs => star_of_emp hs
 | _ :: l, F, _, hs => star_assoc' (star_mono (fun _ x => x) (fun x => stars_append' l F x) hs)
theorem Sat.allE {w : World} {l F : List HProp} (hs : Sat w (all l :: F)) : Sat w (l ++ F) := hs.mono fun x => stars_append l F x
theorem Sat.allI {w : World} {l F : List HProp} (hs : Sat w (l ++ F)) : Sat w (all l :: F) := hs.mono fun x => stars_append' l F x
theorem Sat.liftE {w : World} {p : Prop} {l : List HProp} (hs : Sat w (lift p :: l)) : p ∧ Sat w l := by
 refine ⟨?_, hs.tail⟩
 obtain ⟨h, ⟨h1, h2, _, _, a, _⟩, _⟩ := hs
 exact a.1
theorem Sat.liftI {w : World} {p : Prop} {l : List HProp} (hp : p) (hs : Sat w l) : Sat w (lift p :: l) := by
 obtain ⟨h, a, b⟩ := hs
 exact ⟨h, star_mono (fun _ x => ⟨hp, x⟩) (fun _ x => x) (star_of_emp a), b⟩
theorem Sat.exE {w : World} {α : Type} {P : α → HProp} {l : List HProp} (hs : Sat w (ex P :: l)) : ∃ a, Sat w (P a :: l) := by
 obtain ⟨h, ⟨h1, h2, hd, he, ⟨a, ha⟩, b⟩, hw⟩ := hs
 exact ⟨a, h, ⟨h1, h2, hd, he, ha, b⟩, hw⟩
theorem Sat.exI {w : World} {α : Type} {P : α → HProp} {l : List HProp} (a : α) (hs : Sat w (P a :: l)) : Sat w (ex P :: l) := hs.head fun _ h => ⟨a, h⟩
theorem Sat.nil (w : World) : Sat w [] := ⟨fun _ => none, fun _ => rfl, fun _ _ h => by cases h⟩
theorem Sat.emp {w : World} {l : List HProp} (hs : Sat w l) : Sat w (emp :: l) := by
 obtain ⟨h, a, b⟩ := hs
 exact ⟨h, star_of_emp a, b⟩
/-! ### blocks -/
theorem Sat.get {w : World} {b : Nat} {o : Obj} {l : List HProp} (hs : Sat w (own b o :: l)) : w.heap[b]? = some o := by
 obtain ⟨h, ⟨h1, h2, hd, he, a, _⟩, hw⟩ := hs
 exact hw b o (by rw [he, a.1]; rfl)
theorem Sat.lt {w : World} {b : Nat} {o : Obj} {l : List HProp} (hs : Sat w (own b o :: l)) : b < w.heap.size := (Array.getElem?_eq_some_iff.1 hs.get).1
theorem Sat.cell {w : World} {b : Nat} {c : Array Value} {e : TypeId} {f : Nat × Nat} {l : List HProp} (hs : Sat w (own b (.cells c e f) :: l)) (i : Nat) : w.cell? ⟨b, i, none⟩ = c[i]? := cell_of_row w b i c e f hs.get
theorem Sat.free {w : World} {b : Nat} {c : Array Value} {e : TypeId} {l : List HProp} (hs : Sat w (own b (.cells c e (0, 0)) :: l)) (i : Nat) : w.frozen? ⟨b, i, none⟩ = false := frozen_of_row w b i c e hs.get
theorem Sat.ne {w : World} {b c : Nat} {o o' : Obj} {l : List HProp} (hs : Sat w (own b o :: own c o' :: l)) : b ≠ c := by
 obtain ⟨h, ⟨h1, h2, hd, he, a, ⟨k1, k2, kd, ke, a', _⟩⟩, hw⟩ := hs
 rintro rfl
 rcases hd b with e | e
 · rw [a.1] at e; cases e
 · rw [ke, a'.1] at e; cases e
/-- One block is another one now; all others are as they were. -/
theorem Sat.turn {w w' : World} {b : Nat} {o o' : Obj} {l : List HProp} (hs : Sat w (own b o :: l)) (hb : w'.heap[b]? = some o') (hk : ∀ k, k < w.heap.size → k ≠ b → w'.heap[k]? = w.heap[k]?) : Sat w' (own b o' :: l) := by
 obtain ⟨h, ⟨h1, h2, hd, he, a, c⟩, hw⟩ := hs
 have h2b : h2 b = none := (hd b).resolve_left (by rw [a.1]; simp)
 refine ⟨fun k => (if k = b then some o' else none : Option Obj).or (h2 k), ⟨fun k => if k = b then some o' else none, h2, fun k => ?_, fun _ => rfl, ⟨by simp, fun k hk => by simp [hk]⟩, c⟩, fun k x hx => ?_⟩
 · by_cases e : k = b
   · right; rw [e]; exact h2b
   · left; simp [e]
 · by_cases e : k = b
   · subst e; simp at hx; rw [← hx]; exact hb
   · simp [e] at hx
     have hx' : h k = some x := by rw [he, a.2 k e]; simpa using hx
     have := hw k x hx'
     rw [hk k (Array.getElem?_eq_some_iff.1 this).1 e]; exact this
/-- A new block. -/
theorem Sat.more {w w' : World} {b : Nat} {o : Obj} {l : List HProp} (hs : Sat w l) (hb : w'.heap[b]? = some o) (hn : w.heap.size ≤ b) (hk : ∀ k, k < w.heap.size → w'.heap[k]? = w.heap[k]?) : Sat w' (own b o :: l) := by
 obtain ⟨h, c, hw⟩ := hs
 have hnone : h b = none := by
   cases e : h b with
   | none => rfl
   | some x => have := (Array.getElem?_eq_some_iff.1 (hw b x e)).1; omega
 refine ⟨fun k => (if k = b then some o else none : Option Obj).or (h k), ⟨fun k => if k = b then some o else none, h, fun k => ?_, fun _ => rfl, ⟨by simp, fun k hk => by simp [hk]⟩, c⟩, fun k x hx => ?_⟩
 · by_cases e : k = b
   · right; rw [e]; exact hnone
   · left; simp [e]
 · by_cases e : k = b
   · subst e; simp at hx; rw [← hx]; exact hb
   · simp [e] at hx
     have := hw k x hx
     rw [hk k (Array.getElem?_eq_some_iff.1 this).1]; exact this
/-- All that was there is as it was. -/
theorem Sat.kept {w w' : World} {l : List HProp} (hs : Sat w l) (hk : ∀ k, k < w.heap.size → w'.heap[k]? = w.heap[k]?) : Sat w' l := by
 obtain ⟨h, c, hw⟩ := hs
 exact ⟨h, c, fun k x hx => by
   have := hw k x hx
   rw [hk k (Array.getElem?_eq_some_iff.1 this).1]; exact this⟩
theorem Sat.alloc {w : World} {l : List HProp} (hs : Sat w l) (o : Obj) : Sat (w.alloc o) (own w.heap.size o :: l) :=
 hs.more (Go.heap_alloc_new w o) (Nat.le_refl _) fun _ hk => Go.heap_alloc_old w o hk
theorem Sat.alloc' {w : World} {l : List HProp} (hs : Sat w l) (o : Obj) : Sat (w.alloc o) l := hs.kept fun _ hk => Go.heap_alloc_old w o hk
theorem Sat.drew {w : World} {l : List HProp} (hs : Sat w l) : Sat w.drew l := hs.kept fun _ _ => rfl
theorem Sat.drewN {w : World} {l : List HProp} (hs : Sat w l) (n : Nat) : Sat (w.drewN n) l := hs.kept fun _ _ => rfl
theorem Sat.set {w : World} {b : Nat} {c : Array Value} {e : TypeId} {l : List HProp} (hs : Sat w (own b (.cells c e (0, 0)) :: l)) (i : Nat) (v : Value) : Sat (w.setCell ⟨b, i, none⟩ v) (own b (.cells (c.setIfInBounds i v) e (0, 0)) :: l) :=
 hs.turn (heap_setCell_same w b i c e v hs.get) fun k _ hk => heap_setCell_other w _ k v hk
theorem Sat.setRow {w : World} {b : Nat} {c : Array Value} {e : TypeId} {f : Nat × Nat} {l : List HProp} (hs : Sat w (own b (.cells c e f) :: l)) (cs : Array Value) : Sat (w.setRow b cs) (own b (.cells cs e f) :: l) :=
 hs.turn (setRow_heap w b c cs e f hs.get) fun k _ hk => setRow_other w b k cs hk
/-- Only new blocks have turned. -/
theorem Sat.belowed {w w' : World} {l : List HProp} (hs : Sat w l) (hb : Below w.heap.size w w') : Sat w' l ∧ Kp w w' :=
 ⟨hs.kept fun k hk => hb.block k hk, ⟨hb.os, hb.tape, hb.output, hb.size⟩⟩
/-! ### slices that own their array -/
/-- A slice v of n elements of type e, 'size' cells each, that owns its array: nil, or n elements from an offset on, and room behind them. -/
def row (v : Value) (e : TypeId) (size n : Nat) (xs : List Value) : HProp := fun h =>
 xs.length = n * size ∧ ((v = .slice none 0 0 ∧ n = 0 ∧ emp h) ∨ ∃ g off cap cur, v = .slice (some ⟨g, off, none⟩) n cap ∧ n ≤ cap ∧ cap ≤ maxLen ∧ off + cap * size ≤ cur.size ∧ (cur.toList.drop off).take (n * size) = xs ∧ own g (.cells cur e (0, 0)) h)
/-- How a slice that owns its array can be. -/
theorem Sat.rowE {w : World} {v : Value} {e : TypeId} {size n : Nat} {xs : List Value} {l : List HProp} (hs : Sat w (row v e size n xs :: l)) :
   xs.length = n * size ∧ ((v = .slice none 0 0 ∧ n = 0 ∧ xs = [] ∧ Sat w l) ∨ ∃ g off cap cur, v = .slice (some ⟨g, off, none⟩) n cap ∧ n ≤ cap ∧ cap ≤ maxLen ∧ off + cap * size ≤ cur.size ∧ (cur.toList.drop off).take (n * size) = xs ∧ Sat w (own g (.cells cur e (0, 0)) :: l)) := by
 have ht := hs.tail
 obtain ⟨h, ⟨h1, h2, hd, he, ⟨hl, a⟩, c⟩, hw⟩ := hs
 refine ⟨hl, ?_⟩
 rcases a with ⟨rfl, rfl, _⟩ | ⟨g, off, cap, cur, hv, hn, hc, hsz, hx, ho⟩
 · exact .inl ⟨rfl, rfl, List.eq_nil_of_length_eq_zero (by simpa using hl), ht⟩
 · exact .inr ⟨g, off, cap, cur, hv, hn, hc, hsz, hx, h, ⟨h1, h2, hd, he, ho, c⟩, hw⟩
theorem Sat.rowNil {w : World} {l : List HProp} (e : TypeId) (size : Nat) (hs : Sat w l) : Sat w (row (.slice none 0 0) e size 0 [] :: l) :=
 hs.emp.head fun _ h => ⟨by simp, .inl ⟨rfl, rfl, h⟩⟩
theorem Sat.rowI {w : World} {e : TypeId} {size n : Nat} {l : List HProp} {g off cap : Nat} {cur : Array Value} (hs : Sat w (own g (.cells cur e (0, 0)) :: l)) (hn : n ≤ cap) (hc : cap ≤ maxLen) (hsz : off + cap * size ≤ cur.size) :
   Sat w (row (.slice (some ⟨g, off, none⟩) n cap) e size n ((cur.toList.drop off).take (n * size)) :: l) :=
 hs.head fun _ h => ⟨by
   have : n * size ≤ cap * size := Nat.mul_le_mul_right _ hn
   rw [List.length_take, List.length_drop, Array.length_toList]; omega, .inr ⟨g, off, cap, cur, rfl, hn, hc, hsz, rfl, h⟩⟩
theorem drop_take_getElem? (l : List Value) (off m j : Nat) (hj : j < m) : ((l.drop off).take m)[j]? = l[off + j]? := by
 rw [List.getElem?_take, if_pos hj, List.getElem?_drop]
theorem Sat.rowCell {w : World} {e : TypeId} {size n : Nat} {xs : List Value} {l : List HProp} {g off cap : Nat} (hs : Sat w (row (.slice (some ⟨g, off, none⟩) n cap) e size n xs :: l)) (j : Nat) (hj : j < n * size) : w.cell? ⟨g, off + j, none⟩ = xs[j]? := by
 obtain ⟨_, h⟩ := hs.rowE
 rcases h with ⟨h, _⟩ | ⟨g', off', cap', cur, h, _, _, _, hx, ho⟩
 · simp at h
 · simp only [Value.slice.injEq, Option.some.injEq, Addr.mk.injEq, and_true, true_and] at h
   obtain ⟨⟨rfl, rfl⟩, rfl⟩ := h
   rw [ho.cell, ← hx, drop_take_getElem? _ _ _ _ hj, Array.getElem?_toList]
theorem Sat.rowFree {w : World} {e : TypeId} {size n m : Nat} {xs : List Value} {l : List HProp} {g off cap : Nat} (hs : Sat w (row (.slice (some ⟨g, off, none⟩) n cap) e size m xs :: l)) (j : Nat) : w.frozen? ⟨g, j, none⟩ = false := by
 obtain ⟨_, h⟩ := hs.rowE
 rcases h with ⟨h, _⟩ | ⟨g', off', cap', cur, h, _, _, _, hx, ho⟩
 · simp at h
 · simp only [Value.slice.injEq, Option.some.injEq, Addr.mk.injEq, and_true] at h
   obtain ⟨⟨rfl, rfl⟩, _⟩ := h
   exact ho.free _
/-- The form of a slice with an element. -/
theorem Sat.rowForm {w : World} {v : Value} {e : TypeId} {size n : Nat} {xs : List Value} {l : List HProp} (hs : Sat w (row v e size n xs :: l)) : v = .slice none 0 0 ∧ n = 0 ∧ xs = [] ∨ ∃ g off cap, v = .slice (some ⟨g, off, none⟩) n cap := by
 rcases hs.rowE.2 with ⟨rfl, rfl, h, _⟩ | ⟨g, off, cap, _, h, _⟩
 · exact .inl ⟨rfl, rfl, h⟩
 · exact .inr ⟨g, off, cap, h⟩
theorem Sat.rowSlice {w : World} {v : Value} {e : TypeId} {size n : Nat} {xs : List Value} {l : List HProp} (hs : Sat w (row v e size n xs :: l)) : ∃ ao m cap, v = .slice ao m cap := by
 rcases hs.rowForm with ⟨h, _, _⟩ | ⟨g, off, cap, h⟩
 · exact ⟨_, _, _, h⟩
 · exact ⟨_, _, _, h⟩
theorem Sat.rowBlock {w : World} {e : TypeId} {size n m : Nat} {xs : List Value} {l : List HProp} {g off cap : Nat} (hs : Sat w (row (.slice (some ⟨g, off, none⟩) n cap) e size m xs :: l)) : g < w.heap.size := by
 rcases hs.rowE.2 with ⟨h, _⟩ | ⟨g', off', cap', cur, h, _, _, _, _, ho⟩
 · simp at h
 · simp only [Value.slice.injEq, Option.some.injEq, Addr.mk.injEq, and_true] at h
   obtain ⟨⟨rfl, rfl⟩, _⟩ := h
   exact ho.lt
theorem Sat.rowSome {w : World} {v : Value} {e : TypeId} {size n : Nat} {xs : List Value} {l : List HProp} (hs : Sat w (row v e size (n + 1) xs :: l)) : ∃ g off m cap, v = .slice (some ⟨g, off, none⟩) m cap := by
 rcases hs.rowForm with ⟨_, h, _⟩ | ⟨g, off, cap, h⟩
 · cases h
 · exact ⟨g, off, _, cap, h⟩
/-! ### slices of data: each element by its cells -/
def rowT {α : Type} (f : α → List Value) (v : Value) (e : TypeId) (size : Nat) (xs : List α) : HProp := row v e size xs.length (xs.flatMap f)
def fI : Int → List Value := fun x => [.int .i64 x]
def fS : ByteArray → List Value := fun x => [.string x]
def fB : Bool → List Value := fun x => [.bool x]
theorem Sat.tForm {α : Type} {f : α → List Value} {w : World} {v : Value} {e : TypeId} {size : Nat} {xs : List α} {l : List HProp} (hs : Sat w (rowT f v e size xs :: l)) :
   v = .slice none 0 0 ∧ xs = [] ∨ ∃ g off cap, v = .slice (some ⟨g, off, none⟩) xs.length cap := by
 rcases Sat.rowForm hs with ⟨h, h2, _⟩ | h
 · exact .inl ⟨h, List.eq_nil_of_length_eq_zero h2⟩
 · exact .inr h
/-- Its header, whatever its form. -/
theorem Sat.tLen {α : Type} {f : α → List Value} {w : World} {v : Value} {e : TypeId} {size : Nat} {xs : List α} {l : List HProp} (hs : Sat w (rowT f v e size xs :: l)) :
   ∃ ao cap, v = .slice ao xs.length cap := by
 rcases hs.tForm with ⟨rfl, rfl⟩ | ⟨g, off, cap, rfl⟩
 · exact ⟨none, 0, rfl⟩
 · exact ⟨_, _, rfl⟩
theorem Sat.tNil {α : Type} (f : α → List Value) {w : World} {l : List HProp} (e : TypeId) (size : Nat) (hs : Sat w l) : Sat w (rowT f (.slice none 0 0) e size [] :: l) := hs.rowNil e size
theorem Sat.tSnoc {α : Type} {f : α → List Value} {w : World} {v : Value} {e : TypeId} {size : Nat} {xs : List α} {x : α} {cs : List Value} {l : List HProp} (hs : Sat w (row v e size (xs.length + 1) (xs.flatMap f ++ cs) :: l)) (hc : cs = f x) :
   Sat w (rowT f v e size (xs ++ [x]) :: l) := by
 subst hc
 unfold rowT
 rw [List.length_append, List.flatMap_append]
 simpa using hs
theorem Sat.tCap {α : Type} {f : α → List Value} {w : World} {e : TypeId} {size : Nat} {xs : List α} {g off n cap : Nat} {l : List HProp} (hs : Sat w (rowT f (.slice (some ⟨g, off, none⟩) n cap) e size xs :: l)) : xs.length ≤ cap ∧ n = xs.length ∧ cap ≤ maxLen := by
 rcases (Sat.rowE hs).2 with ⟨h, _⟩ | ⟨g', off', cap', cur, h, h1, h2, _⟩
 · simp at h
 · simp only [Value.slice.injEq, Option.some.injEq, Addr.mk.injEq, and_true] at h
   obtain ⟨_, rfl, rfl⟩ := h
   exact ⟨h1, rfl, h2⟩
theorem len_fI : ∀ xs : List Int, (xs.flatMap fI).length = xs.length
 | [] => rfl
 | x :: xs => by rw [List.flatMap_cons, List.length_append, len_fI xs]; simp [fI]; omega
theorem one_fI (xs : List Int) : ∀ u ∈ xs.flatMap fI, u.oneCell' = true := by
 intro u hu
 rw [List.mem_flatMap] at hu
 obtain ⟨x, _, hx⟩ := hu
 simp [fI] at hx
 subst hx
 rfl
theorem get_fI : ∀ (xs : List Int) (i : Nat), (xs.flatMap fI)[i]? = xs[i]?.map (Value.int .i64)
 | [], i => by simp
 | x :: xs, 0 => by simp [fI]
 | x :: xs, i + 1 => by rw [List.flatMap_cons, List.getElem?_append_right (by simp [fI])]; simpa [fI] using get_fI xs i
theorem Sat.tCellI {w : World} {e : TypeId} {xs : List Int} {l : List HProp} {g off n cap : Nat} (hs : Sat w (rowT fI (.slice (some ⟨g, off, none⟩) n cap) e 1 xs :: l)) (i : Nat) (x : Int) (hx : xs[i]? = some x) : w.cell? ⟨g, off + i, none⟩ = some (.int .i64 x) := by
 have hn := hs.tCap
 have hi := (List.getElem?_eq_some_iff.1 hx).1
 obtain ⟨h1, rfl, h2⟩ := hn
 rw [Sat.rowCell hs i (by omega), get_fI, hx]
 rfl
theorem Sat.rowNe {w : World} {e : TypeId} {size n m : Nat} {xs : List Value} {l : List HProp} {g off cap b : Nat} {o : Obj} (hs : Sat w (row (.slice (some ⟨g, off, none⟩) n cap) e size m xs :: own b o :: l)) : g ≠ b := by
 rcases hs.rowE.2 with ⟨h, _⟩ | ⟨g', off', cap', cur, h, _, _, _, _, ho⟩
 · simp at h
 · simp only [Value.slice.injEq, Option.some.injEq, Addr.mk.injEq, and_true] at h
   obtain ⟨⟨rfl, rfl⟩, _⟩ := h
   exact ho.ne
/-- A store into an element's cell. -/
theorem Sat.rowSet {w : World} {e : TypeId} {size n : Nat} {xs : List Value} {l : List HProp} {g off cap : Nat} (hs : Sat w (row (.slice (some ⟨g, off, none⟩) n cap) e size n xs :: l)) (j : Nat) (u : Value) :
   Sat (w.setCell ⟨g, off + j, none⟩ u) (row (.slice (some ⟨g, off, none⟩) n cap) e size n (xs.set j u) :: l) := by
 rcases hs.rowE.2 with ⟨h, _⟩ | ⟨g', off', cap', cur, h, h1, h2, h3, hx, ho⟩
 · simp at h
 · simp only [Value.slice.injEq, Option.some.injEq, Addr.mk.injEq, and_true, true_and] at h
   obtain ⟨⟨rfl, rfl⟩, rfl⟩ := h
   have hI := (ho.set (off + j) u).rowI (off := off) (size := size) (n := n) h1 h2 (by simpa using h3)
   have e2 : (List.drop off (cur.setIfInBounds (off + j) u).toList).take (n * size) = xs.set j u := by
     rw [Array.toList_setIfInBounds, ← hx, ← List.take_set]
     congr 1
     rw [List.drop_set, if_neg (by omega)]
     congr 1
     omega
   rw [e2] at hI
   exact hI
theorem set_fI : ∀ (xs : List Int) (i : Nat) (x : Int), (xs.flatMap fI).set i (.int .i64 x) = (xs.set i x).flatMap fI
 | [], i, x => by simp
 | y :: xs, 0, x => by simp [fI]
 | y :: xs, i + 1, x => by
   have := set_fI xs i x
   simp only [fI, List.flatMap_cons, List.cons_append, List.nil_append, List.set_cons_succ] at this ⊢
   rw [this]
theorem Sat.tSetI {w : World} {e : TypeId} {xs : List Int} {l : List HProp} {g off cap : Nat} (hs : Sat w (rowT fI (.slice (some ⟨g, off, none⟩) xs.length cap) e 1 xs :: l)) (i : Nat) (x : Int) :
   Sat (w.setCell ⟨g, off + i, none⟩ (.int .i64 x)) (rowT fI (.slice (some ⟨g, off, none⟩) xs.length cap) e 1 (xs.set i x) :: l) := by
 have h := Sat.rowSet hs i (.int .i64 x)
 rw [set_fI] at h
 unfold rowT
 rw [List.length_set]
 exact h
theorem Sat.tSetI' {w : World} {e : TypeId} {xs : List Int} {l : List HProp} {g off n cap : Nat} (hs : Sat w (rowT fI (.slice (some ⟨g, off, none⟩) n cap) e 1 xs :: l)) (i : Nat) (x : Int) :
   Sat (w.setCell ⟨g, off + i, none⟩ (.int .i64 x)) (rowT fI (.slice (some ⟨g, off, none⟩) n cap) e 1 (xs.set i x) :: l) := by
 obtain ⟨_, hn, _⟩ := hs.tCap
 rw [hn] at hs ⊢
 exact hs.tSetI i x
/-! elements of several cells -/
theorem get_flat {α : Type} {f : α → List Value} {size : Nat} (hf : ∀ x, (f x).length = size) : ∀ (xs : List α) (i k : Nat) (x : α), xs[i]? = some x → k < size → (xs.flatMap f)[i * size + k]? = (f x)[k]?
 | [], i, k, x, h, _ => by simp at h
 | y :: xs, 0, k, x, h, hk => by
   simp at h; subst h
   rw [List.flatMap_cons, Nat.zero_mul, Nat.zero_add, List.getElem?_append_left (by rw [hf]; exact hk)]
 | y :: xs, i + 1, k, x, h, hk => by
   rw [List.flatMap_cons, List.getElem?_append_right (by rw [hf, Nat.add_mul]; omega), hf, Nat.add_mul]
   rw [show i * size + 1 * size + k - size = i * size + k by omega]
   exact get_flat hf xs i k x (by simpa using h) hk
theorem Sat.tCell {α : Type} {f : α → List Value} {w : World} {e : TypeId} {size n : Nat} {xs : List α} {l : List HProp} {g off cap : Nat} (hf : ∀ x, (f x).length = size) (hs : Sat w (rowT f (.slice (some ⟨g, off, none⟩) n cap) e size xs :: l)) (i k : Nat) {x : α} {u : Value} (hx : xs[i]? = some x) (hu : (f x)[k]? = some u) :
   w.cell? ⟨g, off + i * size + k, none⟩ = some u := by
 have hk : k < size := by have := (List.getElem?_eq_some_iff.1 hu).1; rwa [hf] at this
 have hi := (List.getElem?_eq_some_iff.1 hx).1
 obtain ⟨h1, rfl, h2⟩ := hs.tCap
 have hlt : i * size + k < xs.length * size := by
   have : (i + 1) * size ≤ xs.length * size := Nat.mul_le_mul_right _ hi
   rw [Nat.add_mul] at this; omega
 rw [Nat.add_assoc, Sat.rowCell hs (i * size + k) hlt, get_flat hf xs i k x hx hk, hu]
def setAll (l : List Value) (j : Nat) : List Value → List Value
 | [] => l
 | u :: us => setAll (l.set j u) (j + 1) us
theorem setAll_append_right (a b : List Value) : ∀ (us : List Value) (j : Nat), setAll (a ++ b) (a.length + j) us = a ++ setAll b j us
 | [], _ => rfl
 | u :: us, j => by
   unfold setAll
   rw [List.set_append_right _ _ (by omega), show a.length + j - a.length = j by omega, Nat.add_assoc, setAll_append_right a _ us (j + 1)]
theorem setAll_self : ∀ (us a b : List Value), us.length = b.length → ∀ c, setAll (a ++ (b ++ c)) a.length us = a ++ (us ++ c)
 | [], a, [], _, c => rfl
 | u :: us, a, y :: b, h, c => by
   unfold setAll
   rw [List.set_append_right _ _ (by omega), Nat.sub_self, List.cons_append, List.set_cons_zero]
   have := setAll_self us (a ++ [u]) b (by simpa using h) c
   simp only [List.length_append, List.length_cons, List.length_nil, List.append_assoc, List.cons_append, List.nil_append] at this
   simpa using this
theorem setAll_flat {α : Type} {f : α → List Value} {size : Nat} (hf : ∀ x, (f x).length = size) : ∀ (xs : List α) (i : Nat) (y : α), i < xs.length → setAll (xs.flatMap f) (i * size) (f y) = (xs.set i y).flatMap f
 | [], i, y, h => by simp at h
 | x :: xs, 0, y, _ => by
   have := setAll_self (f y) [] (f x) (by rw [hf, hf]) (xs.flatMap f)
   simpa using this
 | x :: xs, i + 1, y, h => by
   rw [List.flatMap_cons, Nat.add_mul, Nat.one_mul, Nat.add_comm, ← hf x, setAll_append_right, hf, setAll_flat hf xs i y (by simpa using h)]
   simp
/-- The cells of an element, one behind the other. -/
def World.putCells (w : World) (g off : Nat) : List Value → World
 | [] => w
 | u :: us => World.putCells (w.setCell ⟨g, off, none⟩ u) g (off + 1) us
theorem Sat.rowPut {e : TypeId} {size n : Nat} {l : List HProp} {g off cap : Nat} : ∀ (us : List Value) {w : World} {xs : List Value} (j : Nat), Sat w (row (.slice (some ⟨g, off, none⟩) n cap) e size n xs :: l) →
   Sat (World.putCells w g (off + j) us) (row (.slice (some ⟨g, off, none⟩) n cap) e size n (setAll xs j us) :: l)
 | [], _, _, _, hs => hs
 | u :: us, w, xs, j, hs => by
   have := Sat.rowPut us (j + 1) (hs.rowSet j u)
   exact this
theorem Sat.tPut {α : Type} {f : α → List Value} {w : World} {e : TypeId} {size : Nat} {xs : List α} {l : List HProp} {g off cap : Nat} (hf : ∀ x, (f x).length = size) (hs : Sat w (rowT f (.slice (some ⟨g, off, none⟩) xs.length cap) e size xs :: l)) (i : Nat) (y : α) (hi : i < xs.length) :
   Sat (World.putCells w g (off + i * size) (f y)) (rowT f (.slice (some ⟨g, off, none⟩) xs.length cap) e size (xs.set i y) :: l) := by
 have h := Sat.rowPut (f y) (i * size) hs
 rw [setAll_flat hf xs i y hi] at h
 unfold rowT
 rw [List.length_set]
 exact h
theorem Kp.putCells {a : World} {g : Nat} : ∀ (us : List Value) {w : World} (off : Nat), Kp a w → Kp a (World.putCells w g off us)
 | [], _, _, h => h
 | u :: us, w, off, h => Kp.putCells us (off + 1) (h.setCell _ _)
theorem Sat.tOf {α : Type} {f : α → List Value} {w : World} {v : Value} {e : TypeId} {size n : Nat} {cs : List Value} {l : List HProp} (hs : Sat w (row v e size n cs :: l)) (xs : List α) (hn : n = xs.length) (hc : cs = xs.flatMap f) : Sat w (rowT f v e size xs :: l) := by
 subst hn; subst hc; exact hs
/-- A slice literal without elements. -/
theorem Sat.rowEmpty {w : World} {l : List HProp} (e : TypeId) (size : Nat) (hs : Sat w l) : Sat (w.alloc (.cells #[] e)) (row (.slice (some ⟨w.heap.size, 0, none⟩) 0 0) e size 0 [] :: l) := by
 have := (hs.alloc (.cells #[] e)).rowI (off := 0) (size := size) (n := 0) (cap := 0) (Nat.le_refl _) (by simp [maxLen]) (by simp)
 simpa using this
theorem Sat.tSome {α : Type} {f : α → List Value} {w : World} {v : Value} {e : TypeId} {size : Nat} {x : α} {xs : List α} {l : List HProp} (hs : Sat w (rowT f v e size (x :: xs) :: l)) : ∃ g off cap, v = .slice (some ⟨g, off, none⟩) (xs.length + 1) cap := by
 rcases hs.tForm with ⟨_, h⟩ | h
 · cases h
 · exact h
section
variable {P : Program} {w : World}
theorem run_append_room_off (t ty e : TypeId) (i : TypeInfo) (ht : P.underlying t = some (.slice e)) (hi : P.info? e = some i)
   (g off sLen sCap : Nat) (cur : Array Value) (hg : w.heap[g]? = some (.cells cur e (0, 0)))
   (a : Addr) (m c : Nat) (news : List Value) (hl : news.length = m * i.size) (hnews : ∀ j u, news[j]? = some u → w.cell? (a.add j) = some u) (h1 : ∀ u ∈ news, u.oneCell' = true)
   (hroom : sLen + m ≤ sCap) (hfit : off + sLen * i.size + news.length ≤ cur.size) :
   (Builtin.append_ #[t, t] ty #[.slice (some ⟨g, off, none⟩) sLen sCap, .slice (some a) m c]).run P w =
     .ok (.slice (some ⟨g, off, none⟩) (sLen + m) sCap) (w.setRow g (cur.toList.take (off + sLen * i.size) ++ news ++ cur.toList.drop (off + sLen * i.size + news.length)).toArray) := by
 have hf := run_firstCells_some (P := P) w i.size m a m c news hl hnews
 have hst := run_storeCells_at P g (off + sLen * i.size) e news 0 cur w hg (by simpa using hfit) h1
 simp only [Nat.add_zero] at hst
 simp [Builtin.append_, run_underlying ht, sizeOf, typeInfo, hi, Builtin.lenOf, hroom, hf, Addr.add_lit, hst]
/-- append onto a slice that owns its array: in place, or in a new array. -/
theorem run_append_row (t ty e : TypeId) (i : TypeInfo) (z : Value) (size bytes : Nat) (ht : P.underlying t = some (.slice e)) (hi : P.info? e = some i) (hz : i.zero = some z)
   (hsize : i.size = size) (hby : i.bytes = bytes) (hzs : z.cells.size = size) (hsz : 0 < size)
   {v : Value} {n : Nat} {xs : List Value} {l : List HProp} (hs : Sat w (row v e size n xs :: l))
   (a : Addr) (m c : Nat) (news : List Value) (hl : news.length = m * size) (hnews : ∀ j u, news[j]? = some u → w.cell? (a.add j) = some u) (h1 : ∀ u ∈ news, u.oneCell' = true)
   (h63 : n + m ≤ maxLen) (hbytes : (n + m) * bytes ≤ 140737488355328) :
   ∃ v' w', (Builtin.append_ #[t, t] ty #[v, .slice (some a) m c]).run P w = .ok v' w' ∧ Sat w' (row v' e size (n + m) (xs ++ news) :: l) ∧ Kp w w' := by
 obtain ⟨hlx, h⟩ := hs.rowE
 rcases h with ⟨rfl, rfl, rfl, hs'⟩ | ⟨g, off, cap, cur, rfl, hnc, hcm, hcs, htake, hs'⟩
 · obtain ⟨v', w', hrun, hown, hgr, _⟩ := run_append_own (P := P) w w.heap.size t ty e i z size bytes ht hi hz hsize hby hzs hsz (.slice none 0 0) 0 [] (World.ownsRow_nil w _ e size) a m c news hl hnews h1 h63 hbytes (Nat.le_refl _)
   refine ⟨v', w', hrun, ?_, ⟨hgr.os, hgr.tape, hgr.output, hgr.size⟩⟩
   rcases hown.2 with ⟨rfl, hn⟩ | ⟨g, cap, cur, rfl, hb, hg, hnc, hcm, hcs, htake⟩
   · have h0 : ([] : List Value) ++ news = [] := List.eq_nil_of_length_eq_zero (by rw [hown.1, hn, Nat.zero_mul])
     rw [h0, hn]
     exact (hs'.kept fun k hk => hgr.block k hk (by simp [Value.ownBlock])).rowNil e size
   · have hk := hs'.more hg hb fun k hk => hgr.block k hk (by simp [Value.ownBlock])
     have := hk.rowI (off := 0) (size := size) hnc hcm (by omega)
     rw [List.drop_zero, htake] at this
     exact this
 · by_cases hroom : n + m ≤ cap
   · have hm2 : (n + m) * size ≤ cap * size := Nat.mul_le_mul_right _ hroom
     rw [Nat.add_mul] at hm2
     have hfit : off + n * size + news.length ≤ cur.size := by omega
     subst hsize
     have hr := run_append_room_off (P := P) t ty e i ht hi g off n cap cur hs'.get a m c news hl hnews h1 hroom hfit
     refine ⟨_, _, hr, ?_, (Kp.refl w).setRow _ _⟩
     have h2 := (hs'.setRow (cur.toList.take (off + n * i.size) ++ news ++ cur.toList.drop (off + n * i.size + news.length)).toArray).rowI (off := off) (size := i.size) hroom hcm (by simp only [List.size_toArray, List.length_append, List.length_take, List.length_drop, Array.length_toList]; omega)
     have e2 : (List.drop off (cur.toList.take (off + n * i.size) ++ news ++ cur.toList.drop (off + n * i.size + news.length))).take ((n + m) * i.size) = xs ++ news := by
       rw [List.append_assoc, List.drop_append_of_le_length (by rw [List.length_take, Array.length_toList]; omega), List.drop_take, show off + n * i.size - off = n * i.size by omega, htake, ← List.append_assoc]
       rw [show (n + m) * i.size = (xs ++ news).length by rw [List.length_append, hlx, hl, Nat.add_mul]]
       exact List.take_left
     simp only [] at h2
     rw [e2] at h2
     exact h2
   · have holds : ∀ j u, xs[j]? = some u → w.cell? ((⟨g, off, none⟩ : Addr).add j) = some u := fun j u hu => by
       have hj : j < n * size := by have := (List.getElem?_eq_some_iff.1 hu).1; omega
       rw [Addr.add_lit, hs.rowCell j hj]; exact hu
     obtain ⟨v', w', hrun, hown, hgr⟩ := run_append_arg_grows (P := P) w t ty e i z size bytes ht hi hz hsize hby hzs hsz ⟨g, off, none⟩ n cap xs hlx holds a m c news hl hnews (by omega) h63 hbytes
     refine ⟨v', w', hrun, ?_, ⟨hgr.os, hgr.tape, hgr.output, hgr.size⟩⟩
     rcases hown.2 with ⟨rfl, hn⟩ | ⟨g', cap', cur', rfl, hb, hg', hnc', hcm', hcs', htake'⟩
     · omega
     · have hk := hs'.tail.more hg' hb fun k hk => hgr.block k hk (by simp)
       have := hk.rowI (off := 0) (size := size) hnc' hcm' (by omega)
       rw [List.drop_zero, htake'] at this
       exact this
theorem wpList_append_row {ops : Array Oper} {rest : List Oper} {o : Oper} {a : Act} {Q : Exit → Act → World → Prop} (hgd : o.guard = none) (s x : Operand) (t : TypeId)
   (ho : o.op = .call { callee := .builtin .append, args := #[s, x], argTypes := #[t, t] })
   (e : TypeId) (i : TypeInfo) (z : Value) (size bytes : Nat) (ht : P.underlying t = some (.slice e)) (hi : P.info? e = some i) (hz : i.zero = some z)
   (hsize : i.size = size) (hby : i.bytes = bytes) (hzs : z.cells.size = size) (hsz : 0 < size)
   (v : Value) (n : Nat) (xs : List Value) (l : List HProp) (hv : a.eval s = v) (hs : Sat w (row v e size n xs :: l))
   (ad : Addr) (m c : Nat) (news : List Value) (hx : a.eval x = .slice (some ad) m c) (hl : news.length = m * size) (hnews : ∀ j u, news[j]? = some u → w.cell? (ad.add j) = some u) (h1 : ∀ u ∈ news, u.oneCell' = true)
   (h63 : n + m ≤ maxLen) (hbytes : (n + m) * bytes ≤ 140737488355328)
   (h : ∀ v' w', Sat w' (row v' e size (n + m) (xs ++ news) :: l) → Kp w w' → wpList P ops Q rest (a.put o.dst v') w') : wpList P ops Q (o :: rest) a w := by
 refine wpList_plain hgd fun K hK => ?_
 obtain ⟨v', w', hr, h2, h3⟩ := run_append_row (P := P) t o.type e i z size bytes ht hi hz hsize hby hzs hsz hs ad m c news hl hnews h1 h63 hbytes
 unfold Oper.wp execOp
 simp only [ho, resolve, invoke, builtin, Sem.run_bind, Sem.run_pure, Result.andThen_ok, List.map_toArray, List.map_cons, List.map_nil, hv, hx, hr]
 exact hK _ _ (h v' w' h2 h3)
/-- append of a slice whose cells are all of a block that is known. -/
theorem wpList_append_lit {ops : Array Oper} {rest : List Oper} {o : Oper} {a : Act} {Q : Exit → Act → World → Prop} (hgd : o.guard = none) (s x : Operand) (t : TypeId)
   (ho : o.op = .call { callee := .builtin .append, args := #[s, x], argTypes := #[t, t] })
   (e : TypeId) (i : TypeInfo) (z : Value) (size bytes : Nat) (ht : P.underlying t = some (.slice e)) (hi : P.info? e = some i) (hz : i.zero = some z)
   (hsize : i.size = size) (hby : i.bytes = bytes) (hzs : z.cells.size = size) (hsz : 0 < size)
   (v : Value) (n : Nat) (xs : List Value) (b : Nat) (cs : Array Value) (f : Nat × Nat) (l : List HProp) (hv : a.eval s = v) (hs : Sat w (row v e size n xs :: own b (.cells cs e f) :: l))
   (m c : Nat) (hx : a.eval x = .slice (some ⟨b, 0, none⟩) m c) (hl : cs.size = m * size) (h1 : cs.toList.all (fun u => u.oneCell') = true)
   (h63 : n + m ≤ maxLen) (hbytes : (n + m) * bytes ≤ 140737488355328)
   (h : ∀ v' w', Sat w' (row v' e size (n + m) (xs ++ cs.toList) :: own b (.cells cs e f) :: l) → Kp w w' → wpList P ops Q rest (a.put o.dst v') w') : wpList P ops Q (o :: rest) a w :=
 wpList_append_row hgd s x t ho e i z size bytes ht hi hz hsize hby hzs hsz v n xs _ hv hs ⟨b, 0, none⟩ m c cs.toList hx (by simpa using hl)
   (fun j u hj => by rw [Addr.add_lit, Nat.zero_add, (hs.pull 1).cell]; simpa using hj) (fun u hu => List.all_eq_true.1 h1 u hu) h63 hbytes h
/-- The same, at a step of a region that draws its order; something is appended. -/
theorem step_append_lit {ops : Array Oper} {o : Oper} {a : Act} {K : Act → World → Prop} {Q : Exit → Act → World → Prop} {E : Prop} (hgd : o.guard = none) (s x : Operand) (t : TypeId)
   (ho : o.op = .call { callee := .builtin .append, args := #[s, x], argTypes := #[t, t] })
   (e : TypeId) (i : TypeInfo) (z : Value) (size bytes : Nat) (ht : P.underlying t = some (.slice e)) (hi : P.info? e = some i) (hz : i.zero = some z)
   (hsize : i.size = size) (hby : i.bytes = bytes) (hzs : z.cells.size = size) (hsz : 0 < size)
   (v : Value) (n : Nat) (xs : List Value) (b : Nat) (cs : Array Value) (f : Nat × Nat) (l : List HProp) (hv : a.eval s = v) (hs : Sat w (row v e size n xs :: own b (.cells cs e f) :: l))
   (m c : Nat) (hx : a.eval x = .slice (some ⟨b, 0, none⟩) (m + 1) c) (hl : cs.size = (m + 1) * size) (h1 : cs.toList.all (fun u => u.oneCell') = true)
   (h63 : n + (m + 1) ≤ maxLen) (hbytes : (n + (m + 1)) * bytes ≤ 140737488355328)
   (h : ∀ g off q cap w', Sat w' (row (.slice (some ⟨g, off, none⟩) q cap) e size (n + (m + 1)) (xs ++ cs.toList) :: own b (.cells cs e f) :: l) → Kp w w' → K (a.put o.dst (.slice (some ⟨g, off, none⟩) q cap)) w') :
   if Region.wanted o (yielded ops a.tmps) = true then Oper.wp P o a w K Q else E := by
 have hw : Region.wanted o (yielded ops a.tmps) = true := by simp [Region.wanted, hgd]
 rw [if_pos hw]
 obtain ⟨v', w', hr, h2, h3⟩ := run_append_row (P := P) t o.type e i z size bytes ht hi hz hsize hby hzs hsz hs ⟨b, 0, none⟩ (m + 1) c cs.toList (by simpa using hl)
   (fun j u hj => by rw [Addr.add_lit, Nat.zero_add, (hs.pull 1).cell]; simpa using hj) (fun u hu => List.all_eq_true.1 h1 u hu) h63 hbytes
 unfold Oper.wp execOp
 simp only [ho, resolve, invoke, builtin, Sem.run_bind, Sem.run_pure, Result.andThen_ok, List.map_toArray, List.map_cons, List.map_nil, hv, hx, hr]
 obtain ⟨g, off, q, cap, rfl⟩ := Sat.rowSome (n := n + m) h2
 exact h g off q cap w' h2 h3
end
theorem run_make_rowN {P : Program} (t e : TypeId) (i : TypeInfo) (z : Value) (ht : P.underlying t = some (.slice e)) (hi : P.info? e = some i) (hz : i.zero = some z)
   (kl kc : IntKind) (n c : Nat) (hnc : n ≤ c) (hbytes : i.bytes * c ≤ 281474976710656) (h63 : c ≤ 9223372036854775807) (w : World) :
   (Instr.makeSlice t (.int kl (n : Int)) (.int kc (c : Int))).run P w = .ok (.slice (some ⟨w.heap.size, 0, none⟩) n c) (w.alloc (.cells (madeCells z.cells (c * i.size)) e)) := by
 have hb : (i.bytes : Int) * (c : Int) ≤ 281474976710656 := by
   have h : ((i.bytes * c : Nat) : Int) ≤ 281474976710656 := by omega
   rwa [Int.natCast_mul] at h
 have hr := run_make (P := P) w t e i z ht hi hz kl kc n c (by omega) (by omega) hb (by omega)
 simp only [Int.toNat_natCast] at hr
 exact hr
theorem flat_replicate_get (cs : List Value) (hc : 0 < cs.length) : ∀ (n j : Nat), j < n * cs.length → ((List.replicate n ()).flatMap fun _ => cs)[j]? = cs[j % cs.length]?
 | 0, j, h => by simp at h
 | n + 1, j, h => by
   rw [List.replicate_succ, List.flatMap_cons]
   by_cases hj : j < cs.length
   · rw [List.getElem?_append_left hj, Nat.mod_eq_of_lt hj]
   · rw [List.getElem?_append_right (by omega), flat_replicate_get cs hc n (j - cs.length) (by rw [Nat.add_mul] at h; omega), Nat.mod_eq_sub_mod (a := j) (by omega)]
theorem flat_replicate_len (cs : List Value) : ∀ n : Nat, ((List.replicate n ()).flatMap fun _ => cs).length = n * cs.length
 | 0 => by simp
 | n + 1 => by rw [List.replicate_succ, List.flatMap_cons, List.length_append, flat_replicate_len cs n, Nat.add_mul]; omega
theorem madeCells_toList (z : Array Value) (n : Nat) (hz : 0 < z.size) : (madeCells z (n * z.size)).toList = (List.replicate n ()).flatMap fun _ => z.toList := by
 apply List.ext_getElem?
 intro j
 by_cases hj : j < n * z.size
 · rw [flat_replicate_get z.toList (by simpa using hz) n j (by simpa using hj), Array.getElem?_toList, Array.length_toList]
   have hlt := Nat.mod_lt j hz
   simp [madeCells, hj, hlt]
 · rw [List.getElem?_eq_none (by rw [Array.length_toList, size_madeCells]; omega), List.getElem?_eq_none (by rw [flat_replicate_len, Array.length_toList]; omega)]
/-- A slice that was made: n zeros. -/
theorem Sat.tMade {α : Type} {f : α → List Value} {w : World} {b : Nat} {e : TypeId} {size n : Nat} {z : Array Value} {l : List HProp} (x : α) (hs : Sat w (own b (.cells (madeCells z (n * size)) e (0, 0)) :: l)) (hz : z.size = size) (hp : 0 < size) (hx : f x = z.toList) (hn : n ≤ maxLen) :
   Sat w (rowT f (.slice (some ⟨b, 0, none⟩) n n) e size (List.replicate n x) :: l) := by
 subst hz
 have h := hs.rowI (off := 0) (size := z.size) (n := n) (cap := n) (Nat.le_refl _) hn (by rw [size_madeCells]; omega)
 rw [List.drop_zero, List.take_of_length_le (by rw [Array.length_toList, size_madeCells]; exact Nat.le_refl _), madeCells_toList z n hp] at h
 refine h.tOf _ (by simp) ?_
 clear h hs hn
 induction n with
 | zero => rfl
 | succ n ih => rw [List.replicate_succ, List.flatMap_cons, ih, List.replicate_succ, List.flatMap_cons, hx]
theorem zeroCells_size (z : Array Value) (n : Nat) : (Builtin.zeroCells z n).size = n * z.size := by simp [Builtin.zeroCells]
/-- clear of a slice's end: what is left is its beginning. -/
theorem run_clear_row {P : Program} {w : World} (t ty e : TypeId) (z : Value) (size : Nat) (ht : P.underlying t = some (.slice e)) (hz : ∀ w, (zeroValue e).run P w = .ok z w) (hzs : z.cells.size = size) (h1 : z.cells.toList.all (fun u => u.oneCell') = true) (hp : 0 < size)
   {g off n cap c : Nat} {xs : List Value} {l : List HProp} (hs : Sat w (row (.slice (some ⟨g, off, none⟩) n cap) e size n xs :: l)) (i : Nat) (hi : i < n) :
   ∃ w', (Builtin.clear_ #[t] ty #[.slice (some ⟨g, off + i * size, none⟩) (n - i) c]).run P w = .ok (.tuple #[]) w' ∧ Sat w' (row (.slice (some ⟨g, off, none⟩) i cap) e size i (xs.take (i * size)) :: l) ∧ Kp w w' := by
 rcases hs.rowE.2 with ⟨h, _⟩ | ⟨g', off', cap', cur, h, hn, hc, hsz, hx, ho⟩
 · simp at h
 · simp only [Value.slice.injEq, Option.some.injEq, Addr.mk.injEq, and_true, true_and] at h
   obtain ⟨⟨rfl, rfl⟩, rfl⟩ := h
   have hns : n * size ≤ cap * size := Nat.mul_le_mul_right _ hn
   have his : i * size + (n - i) * size = n * size := by rw [← Nat.add_mul]; congr 1; omega
   have hzl : (Builtin.zeroCells z.cells (n - i)).toList.length = (n - i) * size := by rw [Array.length_toList, zeroCells_size, hzs]
   have hst := run_storeCells_at P g (off + i * size) e (Builtin.zeroCells z.cells (n - i)).toList 0 cur w ho.get (by rw [hzl]; omega) (fun v hv => by
     simp only [Builtin.zeroCells, Array.toList_map, List.mem_map] at hv
     obtain ⟨k, hk, rfl⟩ := hv
     have hlt : k % z.cells.size < z.cells.size := Nat.mod_lt _ (by omega)
     rw [List.all_eq_true] at h1
     refine h1 _ ?_
     rw [getElem!_pos z.cells _ hlt]
     exact Array.getElem_mem_toList hlt)
   simp only [Nat.add_zero] at hst
   refine ⟨w.setRow g (cur.toList.take (off + i * size) ++ (Builtin.zeroCells z.cells (n - i)).toList ++ cur.toList.drop (off + i * size + (Builtin.zeroCells z.cells (n - i)).toList.length)).toArray, ?_, ?_, (Kp.refl w).setRow _ _⟩
   · have hni : n - i ≠ 0 := by omega
     obtain ⟨m, hm⟩ : ∃ m, n - i = m + 1 := ⟨n - i - 1, by omega⟩
     rw [hm] at hst ⊢
     simp [Builtin.clear_, run_underlying ht, hz, hst]
   · have h2 := (ho.setRow (cur.toList.take (off + i * size) ++ (Builtin.zeroCells z.cells (n - i)).toList ++ cur.toList.drop (off + i * size + (Builtin.zeroCells z.cells (n - i)).toList.length)).toArray).rowI (off := off) (size := size) (n := i) (cap := cap) (by omega) hc (by
       simp only [List.size_toArray, List.length_append, List.length_take, List.length_drop, Array.length_toList, hzl]; omega)
     have e2 : (List.drop off (cur.toList.take (off + i * size) ++ (Builtin.zeroCells z.cells (n - i)).toList ++ cur.toList.drop (off + i * size + (Builtin.zeroCells z.cells (n - i)).toList.length))).take (i * size) = xs.take (i * size) := by
       rw [List.append_assoc, List.drop_append_of_le_length (by rw [List.length_take, Array.length_toList]; omega), List.drop_take, show off + i * size - off = i * size by omega]
       rw [List.take_append_of_le_length (by rw [List.length_take, List.length_drop, Array.length_toList]; omega), List.take_take, Nat.min_self, ← hx, List.take_take, Nat.min_eq_left (by omega)]
     simp only [] at h2
     rw [e2] at h2
     exact h2
theorem wpList_clear_row {P : Program} {w : World} {ops : Array Oper} {rest : List Oper} {o : Oper} {a : Act} {Q : Exit → Act → World → Prop} (hgd : o.guard = none) (x : Operand) (t : TypeId)
   (ho : o.op = .call { callee := .builtin .clear, args := #[x], argTypes := #[t] })
   (e : TypeId) (z : Value) (size : Nat) (ht : P.underlying t = some (.slice e)) (hz : ∀ w, (zeroValue e).run P w = .ok z w) (hzs : z.cells.size = size) (h1 : z.cells.toList.all (fun u => u.oneCell') = true) (hp : 0 < size)
   {g off n cap c : Nat} {xs : List Value} {l : List HProp} (hs : Sat w (row (.slice (some ⟨g, off, none⟩) n cap) e size n xs :: l)) (i : Nat) (hi : i < n) (hv : a.eval x = .slice (some ⟨g, off + i * size, none⟩) (n - i) c)
   (h : ∀ w', Sat w' (row (.slice (some ⟨g, off, none⟩) i cap) e size i (xs.take (i * size)) :: l) → Kp w w' → wpList P ops Q rest (a.put o.dst (.tuple #[])) w') : wpList P ops Q (o :: rest) a w := by
 refine wpList_plain hgd fun K hK => ?_
 obtain ⟨w', hr, h2, h3⟩ := run_clear_row (P := P) t o.type e z size ht hz hzs h1 hp hs i hi (c := c)
 unfold Oper.wp execOp
 simp only [ho, resolve, invoke, builtin, Sem.run_bind, Sem.run_pure, Result.andThen_ok, List.map_toArray, List.map_cons, List.map_nil, hv, hr]
 exact hK _ _ (h w' h2 h3)
/-
 A LAW's ROW, ONCE FOR ALL: out of the contract 'it returns true, and all that was there is as it was'. And: the old memory as one assertion.
-/
theorem take_snoc' {α : Type} {l : List α} {k : Nat} {x : α} (h : l[k]? = some x) : l.take (k + 1) = l.take k ++ [x] := by rw [List.take_add_one, h]; rfl
theorem drop_cons' {α : Type} {l : List α} {k : Nat} {x : α} (h : l[k]? = some x) : l.drop k = x :: l.drop (k + 1) := by
 have hk := (List.getElem?_eq_some_iff.1 h).1
 rw [List.drop_eq_getElem_cons hk, (List.getElem?_eq_some_iff.1 h).2]
theorem get_set_self {α : Type} {l : List α} {i : Nat} {a : α} (h : i < l.length) : (l.set i a)[i]? = some a := by simp [h]
theorem get_set_ne {α : Type} {l : List α} {i j : Nat} {a : α} (h : i ≠ j) : (l.set i a)[j]? = l[j]? := List.getElem?_set_ne h
theorem get_repl {α : Type} {n k : Nat} {x : α} (h : k < n) : (List.replicate n x)[k]? = some x := by simp [h]
/-- All blocks that W has, as they are there. -/
def oldH (W : World) : HProp := fun h => (∀ b, b < W.heap.size → h b = W.heap[b]?) ∧ ∀ b, W.heap.size ≤ b → h b = none
theorem Sat.start (W : World) : Sat W [oldH W] := by
 refine ⟨fun b => W.heap[b]?, star_emp ⟨fun _ _ => rfl, fun b hb => by simp [hb]⟩, fun _ _ h => h⟩
theorem Sat.oldBlock {W w : World} {l : List HProp} (hs : Sat w (oldH W :: l)) (b : Nat) (hb : b < W.heap.size) : w.heap[b]? = W.heap[b]? := by
 obtain ⟨h, ⟨h1, h2, hd, he, a, _⟩, hw⟩ := hs
 have h1b := a.1 b hb
 rw [Array.getElem?_eq_getElem hb] at h1b ⊢
 exact hw b _ (by rw [he, h1b]; rfl)
theorem Sat.below {W w : World} {l : List HProp} (hs : Sat w (oldH W :: l)) (hk : Kp W w) : Below W.heap.size W w :=
 ⟨hk.os, hk.tape, hk.output, hk.size, fun b hb => hs.oldBlock b hb⟩
theorem Sat.oldCell {W w : World} {l : List HProp} (hs : Sat w (oldH W :: l)) {a : Addr} {v : Value} (hc : W.cell? a = some v) : w.cell? a = some v := by
 rw [World.cell?_of_block (hs.oldBlock a.block (World.block_lt_of_cell? _ _ hc))]; exact hc
theorem wf_u8 {n : Int} (h : (Lit.int .u8 n).wf = true) : 0 ≤ n ∧ n < 256 := by
 have h0 : IntKind.u8.min = 0 := rfl
 have h1 : IntKind.u8.max = 255 := rfl
 simp only [Lit.wf, h0, h1, Bool.and_eq_true, decide_eq_true_eq] at h
 omega
def fU : Int → List Value := fun x => [.int .u8 x]
theorem get_fU : ∀ (xs : List Int) (i : Nat), (xs.flatMap fU)[i]? = xs[i]?.map (Value.int .u8)
 | [], i => by simp
 | x :: xs, 0 => by simp [fU]
 | x :: xs, i + 1 => by rw [List.flatMap_cons, List.getElem?_append_right (by simp [fU])]; simpa [fU] using get_fU xs i
/-- A slice's length: for a measure. -/
def lenV : Value → Nat | .slice _ n _ => n | _ => 0
theorem Sat.rowLen {w : World} {v : Value} {e : TypeId} {size n : Nat} {xs : List Value} {l : List HProp} (hs : Sat w (row v e size n xs :: l)) : lenV v = n := by
 rcases hs.rowForm with ⟨rfl, rfl, _⟩ | ⟨g, off, cap, rfl⟩ <;> rfl
/-- A slice that came in: n elements, each by its cells. -/
structure ArgRow {α : Type} (W : World) (f : α → List Value) (ao : Option Addr) (n cap : Nat) (xs : List α) : Prop where
 len : xs.length = n
 le : n ≤ cap
 small : cap ≤ maxLen
 cells : 0 < n → ∃ b off, ao = some ⟨b, off, none⟩ ∧ ∀ j u, (xs.flatMap f)[j]? = some u → W.cell? ⟨b, off + j, none⟩ = some u
theorem ArgRow.kept {α : Type} {W w : World} {f : α → List Value} {ao : Option Addr} {n cap : Nat} {xs : List α} (h : ArgRow W f ao n cap xs) (hk : ∀ a v, W.cell? a = some v → w.cell? a = some v) : ArgRow w f ao n cap xs :=
 ⟨h.len, h.le, h.small, fun hn => by
   obtain ⟨b, off, rfl, hc⟩ := h.cells hn
   exact ⟨b, off, rfl, fun j u hj => hk _ _ (hc j u hj)⟩⟩
theorem ArgRow.old {α : Type} {W w : World} {f : α → List Value} {ao : Option Addr} {n cap : Nat} {xs : List α} {l : List HProp} (h : ArgRow W f ao n cap xs) (hs : Sat w (oldH W :: l)) : ArgRow w f ao n cap xs := h.kept fun _ _ hc => hs.oldCell hc
theorem ArgRow.drewN {α : Type} {w : World} {f : α → List Value} {ao : Option Addr} {n cap : Nat} {xs : List α} (h : ArgRow w f ao n cap xs) (k : Nat) : ArgRow (w.drewN k) f ao n cap xs := h.kept fun _ _ hc => hc
theorem Sat.argRow {α : Type} {f : α → List Value} {w : World} {v : Value} {e : TypeId} {size : Nat} {xs : List α} {l : List HProp} (hs : Sat w (rowT f v e size xs :: l)) : ∃ ao cap, v = .slice ao xs.length cap ∧ ArgRow w f ao xs.length cap xs := by
 rcases hs.tForm with ⟨rfl, rfl⟩ | ⟨g, off, cap, rfl⟩
 · exact ⟨none, 0, rfl, rfl, Nat.le_refl _, by simp [maxLen], fun h => by simp at h⟩
 · obtain ⟨h1, _, h3⟩ := hs.tCap
   refine ⟨some ⟨g, off, none⟩, cap, rfl, rfl, h1, h3, fun _ => ⟨g, off, rfl, fun j u hj => ?_⟩⟩
   have hl := (Sat.rowE hs).1
   have hj2 := (List.getElem?_eq_some_iff.1 hj).1
   rw [Sat.rowCell hs j (by omega)]; exact hj
section
variable {H : Type} {enc : TypeId × Value → H} {P : Program} {w : World} {base : Nat} {spare : Nat → Bool} {held : Bool}
theorem arg_ints {t e : TypeId} {v : Value} {d : DataW H} {ps : List MemPlace} {b0 : Nat} (ht : P.underlying t = some (.slice e)) (he : P.underlying e = some (.int .i64)) (hc : P.cellsOf e = 1)
   (hval : Value.okWide P w .any b0 t v) (hd : DataW.Trod enc P w base spare held t v d ps) : ∃ ao n cap xs, v = .slice ao n cap ∧ ArgRow w fI ao n cap xs ∧ ∀ x ∈ xs, (Lit.int .i64 x).wf = true := by
 obtain ⟨ao, n, cap, rfl⟩ := okWide_slice ht hval
 obtain ⟨fuel, hf⟩ := hd
 rcases open_ints ht he hc hf with ⟨h, _⟩ | ⟨a, len, cap', zs, h, _, hl, hm, hz, _, hcell, hwf⟩
 · simp [Value.cells] at h
   obtain ⟨rfl, rfl, rfl⟩ := h
   exact ⟨none, 0, 0, [], rfl, ⟨rfl, Nat.le_refl _, by simp [maxLen], fun h => by omega⟩, by simp⟩
 · simp [Value.cells] at h
   obtain ⟨rfl, rfl, rfl⟩ := h
   have hlz : n ≤ zs.length := by split at hz <;> omega
   refine ⟨some a, n, cap, zs.take n, rfl, ⟨by simp; omega, hl, hm, fun hn => ?_⟩, fun x hx => hwf x (List.mem_of_mem_take hx)⟩
   obtain ⟨b, off, spot⟩ := a
   have hspot : spot = none := by simpa [Addr.add] using World.cell?_spot (hcell 0 (by omega))
   subst hspot
   refine ⟨b, off, rfl, fun j u hj => ?_⟩
   rw [get_fI, Option.map_eq_some_iff] at hj
   obtain ⟨x, hx, rfl⟩ := hj
   rw [List.getElem?_take] at hx
   split at hx
   · have hj2 := (List.getElem?_eq_some_iff.1 hx).1
     rw [← add_plain, hcell j hj2]
     simp [List.getD, hx]
   · cases hx
theorem arg_u8s {t e : TypeId} {v : Value} {d : DataW H} {ps : List MemPlace} {b0 : Nat} (ht : P.underlying t = some (.slice e)) (he : P.underlying e = some (.int .u8)) (hc : P.cellsOf e = 1)
   (hval : Value.okWide P w .any b0 t v) (hd : DataW.Trod enc P w base spare held t v d ps) : ∃ ao n cap xs, v = .slice ao n cap ∧ ArgRow w fU ao n cap xs ∧ ∀ x ∈ xs, (Lit.int .u8 x).wf = true := by
 obtain ⟨ao, n, cap, rfl⟩ := okWide_slice ht hval
 obtain ⟨fuel, hf⟩ := hd
 rcases open_ints ht he hc hf with ⟨h, _⟩ | ⟨a, len, cap', zs, h, _, hl, hm, hz, _, hcell, hwf⟩
 · simp [Value.cells] at h
   obtain ⟨rfl, rfl, rfl⟩ := h
   exact ⟨none, 0, 0, [], rfl, ⟨rfl, Nat.le_refl _, by simp [maxLen], fun h => by omega⟩, by simp⟩
 · simp [Value.cells] at h
   obtain ⟨rfl, rfl, rfl⟩ := h
   have hlz : n ≤ zs.length := by split at hz <;> omega
   refine ⟨some a, n, cap, zs.take n, rfl, ⟨by simp; omega, hl, hm, fun hn => ?_⟩, fun x hx => hwf x (List.mem_of_mem_take hx)⟩
   obtain ⟨b, off, spot⟩ := a
   have hspot : spot = none := by simpa [Addr.add] using World.cell?_spot (hcell 0 (by omega))
   subst hspot
   refine ⟨b, off, rfl, fun j u hj => ?_⟩
   rw [get_fU, Option.map_eq_some_iff] at hj
   obtain ⟨x, hx, rfl⟩ := hj
   rw [List.getElem?_take] at hx
   split at hx
   · have hj2 := (List.getElem?_eq_some_iff.1 hx).1
     rw [← add_plain, hcell j hj2]
     simp [List.getD, hx]
   · cases hx
end
/-- What a law's contract says. -/
def LawCalls (P : Program) (f : FuncId) (args : Array Value) (W : World) : Prop := Calls P f args W fun e W' => e = .returned (.bool true) ∧ Below W.heap.size W W'
section
variable {H : Type} {enc : TypeId × Value → H} {P : Program}
theorem trodAll_stays (hl : laidOutB P = true) {W W' : World} {sp : Nat → Bool} : ∀ {ts : List TypeId} {vs : List Value} {ds : List (DataW H)} {ps : List MemPlace},
   (∀ t ∈ ts, P.readableRec t = true ∧ t < P.types.size) → DataW.TrodAll enc P W 0 (fun _ => true) true ts vs ds ps → (∀ p ∈ ps, W.sameAt W' p) → (∀ p ∈ ps, sp p.block = true) → DataW.TrodAll enc P W' 0 sp true ts vs ds ps
 | [], vs, ds, ps, _, h, _, _ => by
   obtain ⟨rfl, rfl, rfl⟩ := trodAll_nil h
   exact trodAll_mk0
 | t :: ts, vs, ds, ps, hr, h, hs, hsp => by
   obtain ⟨v, vs', d, ds', p, q, rfl, rfl, rfl, h1, h2⟩ := trodAll_cons h
   exact trodAll_cons_mk (WideElems.Trod_stays hl (hr t (by simp)).1 (hr t (by simp)).2 h1 (fun x hx => hs x (List.mem_append_left _ hx)) (fun x hx => hsp x (List.mem_append_left _ hx)))
     (trodAll_stays hl (fun t' ht => hr t' (by simp [ht])) h2 (fun x hx => hs x (List.mem_append_right _ hx)) (fun x hx => hsp x (List.mem_append_right _ hx)))
theorem law_post {f : Func} {s : ChangeSpec} {apart fresh handsOn : Bool} {W W' : World} {args : Array Value} {ds gs : List (DataW H)} {before : List MemPlace} {tb : TypeId}
   (hl : laidOutB P = true) (hub : P.underlying tb = some .bool) (hres : f.resultTypes = #[tb]) (hvars : s.vars = []) (hr : ∀ t ∈ f.params.toList, P.readableRec t = true ∧ t < P.types.size)
   (hW : DataW.Whole enc P f.params.toList s.vars apart W args.toList ds gs before) (hfn : s.fn H (ds ++ gs) = { results := [.lit (.bool true)], args := ds }) (hb : Below W.heap.size W W') :
   s.post enc P f apart fresh handsOn false W args (.bool true) W' := by
 have hlt : ∀ p ∈ before, p.block < W.heap.size := fun p hp => hW.lt p hp
 have hW' := hW
 obtain ⟨p, q, hA, hV, rfl, hfz, hnd⟩ := hW
 rw [hvars] at hV
 obtain ⟨rfl, rfl⟩ := trodVars_none hV
 simp only [List.append_nil] at hlt
 refine ⟨ds, [], p ++ [], [], p, [], hW', ?_, ?_, ?_, World.keptBut_mono (fun x hx => ?_) (hb.frame (· ∈ p)), fun h => by cases h⟩
 · rw [hfn, hres]
   exact trodAll_cons_mk (shut_bool hub _) trodAll_mk0
 · rw [hfn]
   exact trodAll_stays hl hr hA (fun x hx => hb.same (hlt x hx)) (fun x hx => by simpa using hlt x hx)
 · rw [hfn, hvars]
   exact rfl
 · exact ⟨by simpa using hx, .inr (.inl hx)⟩
end
/-- The row's step. -/
theorem law_lifted {C : Checked} (own : ownKnob C.prog.godebug = none) {os : Os} (started : os.Started) {f : FuncId} {fn : Func} {s : ChangeSpec} {apart fresh handsOn : Bool} {tb : TypeId} {H : Type} {enc : TypeId × Value → H}
   (noInit : C.prog.inits.idxOf? f = none) (hfn : C.prog.funcs[f]? = some fn) (hl : laidOutB C.prog = true) (hub : C.prog.underlying tb = some .bool) (hres : fn.resultTypes = #[tb]) (hvars : s.vars = [])
   (hr' : (fn.params.toList.all fun t => C.prog.readableRec t && decide (t < C.prog.types.size)) = true)
   (witness : ∃ (w : World) (tape : Tape) (i : Input), w.os = os ∧ (w.forCall tape i).Shaped C.prog ∧ i.vars = [] ∧ Input.okWide C.prog (w.forCall tape i) .any w.heap.size f i ∧
     s.pre6 enc C.prog fn [] apart (w.forCall tape i).memory i.args ∧ ({} : Assume).holds C.prog (lone (Frame.enter C.prog f i.args .normal) [] (w.forCall tape i)))
   (hs : ∀ ds : List (DataW H), ds.length = fn.params.size → s.fn H (ds ++ []) = { results := [.lit (.bool true)], args := ds })
   (hc : ∀ (W : World) (base : Nat) (args : Array Value) (ds : List (DataW H)) (p : List MemPlace), (∀ (j : Nat) t v, fn.params[j]? = some t → args[j]? = some v → Value.okWide C.prog W .any base t v) →
     DataW.TrodAll enc C.prog W 0 (fun _ => true) true fn.params.toList args.toList ds p → LawCalls C.prog f args W) :
   ReturnsInHanded {} C os f .any (s.pre6 enc C.prog fn [] apart) (s.post enc C.prog fn apart fresh handsOn false) := by
 have hr : ∀ t ∈ fn.params.toList, C.prog.readableRec t = true ∧ t < C.prog.types.size := fun t ht => by
   have := List.all_eq_true.1 hr' t ht
   simpa using this
 refine returnsInHanded_of_change own started noInit hfn witness ?_
 intro W base args ds gs before hval hW _ _
 have hW' := hW
 obtain ⟨p, q, hA, hV, rfl, hfz, hnd⟩ := hW
 have hV' := hV
 rw [hvars] at hV'
 obtain ⟨rfl, rfl⟩ := trodVars_none hV'
 have hlen : ds.length = fn.params.size := by
   have key : ∀ {ts : List TypeId} {vs : List Value} {ds : List (DataW H)} {ps : List MemPlace}, DataW.TrodAll enc C.prog W 0 (fun _ => true) true ts vs ds ps → ds.length = ts.length := by
     intro ts
     induction ts with
     | nil => intro vs ds ps h; obtain ⟨_, rfl, _⟩ := trodAll_nil h; rfl
     | cons t ts ih => intro vs ds ps h; obtain ⟨v, vs', d, ds', p, q, rfl, rfl, rfl, _, h2⟩ := trodAll_cons h; simp [ih h2]
   simpa using key hA
 refine (hc W base args ds p hval hA).mono fun e W' ⟨he, hb⟩ => ⟨_, he, ?_⟩
 exact law_post hl hub hres hvars hr hW' (hs ds hlen) hb
/-
 A LAW's ROW THAT LISTS PACKAGE-LEVEL VARIABLES (a tied card): out of the contract 'it returns true, and all that was there is as it was'.
-/
/-- The row's step. -/
theorem law_lifted2 {C : Checked} (own : ownKnob C.prog.godebug = none) {os : Os} (started : os.Started) {f : FuncId} {fn : Func} {s : ChangeSpec} {apart fresh handsOn : Bool} {tb : TypeId} {H : Type} {enc : TypeId × Value → H} {X : World → Array Value → Prop}
   (hX : ∀ (w w' : World) (args : Array Value), w.heap = w'.heap → X w args → X w' args)
   (noInit : C.prog.inits.idxOf? f = none) (hfn : C.prog.funcs[f]? = some fn) (hl : laidOutB C.prog = true) (hub : C.prog.underlying tb = some .bool) (hres : fn.resultTypes = #[tb]) (hvars : s.vars = [])
   (hr' : (fn.params.toList.all fun t => C.prog.readableRec t && decide (t < C.prog.types.size)) = true)
   (witness : ∃ (w : World) (tape : Tape) (i : Input), w.os = os ∧ (w.forCall tape i).Shaped C.prog ∧ i.vars = [] ∧ Input.okWide C.prog (w.forCall tape i) .any w.heap.size f i ∧
     ((s.pre enc C.prog fn [] apart (w.forCall tape i).memory i.args ∧ X (w.forCall tape i).memory i.args) ∧ sizedMet enc C.prog fn (OpenSpec.ofChange s) apart (w.forCall tape i).memory i.args) ∧ ({} : Assume).holds C.prog (lone (Frame.enter C.prog f i.args .normal) [] (w.forCall tape i)))
   (hs : ∀ ds : List (DataW H), ds.length = fn.params.size → s.fn H (ds ++ []) = { results := [.lit (.bool true)], args := ds })
   (hc : ∀ (W : World) (base : Nat) (args : Array Value) (ds : List (DataW H)) (p : List MemPlace), (∀ (j : Nat) t v, fn.params[j]? = some t → args[j]? = some v → Value.okWide C.prog W .any base t v) →
     DataW.TrodAll enc C.prog W 0 (fun _ => true) true fn.params.toList args.toList ds p → X W args → LawCalls C.prog f args W) :
   ReturnsInHanded {} C os f .any (fun w args => (s.pre enc C.prog fn [] apart w args ∧ X w args) ∧ sizedMet enc C.prog fn (OpenSpec.ofChange s) apart w args) (s.post enc C.prog fn apart fresh handsOn false) := by
 have hr : ∀ t ∈ fn.params.toList, C.prog.readableRec t = true ∧ t < C.prog.types.size := fun t ht => by
   have := List.all_eq_true.1 hr' t ht
   simpa using this
 refine returnsInHanded_of_change_and hX own started noInit hfn witness ?_
 intro W base args ds gs before hval hW _ _ hx _
 have hW' := hW
 obtain ⟨p, q, hA, hV, rfl, hfz, hnd⟩ := hW
 have hV' := hV
 rw [hvars] at hV'
 obtain ⟨rfl, rfl⟩ := trodVars_none hV'
 have hlen : ds.length = fn.params.size := by
   have key : ∀ {ts : List TypeId} {vs : List Value} {ds : List (DataW H)} {ps : List MemPlace}, DataW.TrodAll enc C.prog W 0 (fun _ => true) true ts vs ds ps → ds.length = ts.length := by
     intro ts
     induction ts with
     | nil => intro vs ds ps h; obtain ⟨_, rfl, _⟩ := trodAll_nil h; rfl
     | cons t ts ih => intro vs ds ps h; obtain ⟨v, vs', d, ds', p, q, rfl, rfl, rfl, _, h2⟩ := trodAll_cons h; simp [ih h2]
   simpa using key hA
 refine (hc W base args ds p hval hA hx).mono fun e W' ⟨he, hb⟩ => ⟨_, he, ?_⟩
 exact law_post hl hub hres hvars hr hW' (hs ds hlen) hb
/-! arguments that are slices of whatever -/
theorem list_of {α : Type} {R : Nat → α → Prop} : ∀ n : Nat, (∀ i, i < n → ∃ x, R i x) → ∃ xs : List α, xs.length = n ∧ ∀ i x, xs[i]? = some x → R i x
 | 0, _ => ⟨[], rfl, by simp⟩
 | n + 1, h => by
   obtain ⟨xs, hl, hx⟩ := list_of n fun i hi => h i (by omega)
   obtain ⟨x, hr⟩ := h n (by omega)
   refine ⟨xs ++ [x], by simp [hl], fun i y hy => ?_⟩
   rcases Nat.lt_or_ge i n with hi | hi
   · rw [List.getElem?_append_left (by omega)] at hy
     exact hx i y hy
   · rw [List.getElem?_append_right (by omega)] at hy
     obtain rfl : i = n := by
       have := (List.getElem?_eq_some_iff.1 hy).1
       simp at this; omega
     simp [hl] at hy
     rw [← hy]; exact hr
theorem flat_inv {α : Type} {f : α → List Value} {size : Nat} (hf : ∀ x, (f x).length = size) : ∀ (xs : List α) (j : Nat) (u : Value), (xs.flatMap f)[j]? = some u → ∃ i k x, xs[i]? = some x ∧ k < size ∧ j = i * size + k ∧ (f x)[k]? = some u
 | [], j, u, h => by simp at h
 | x :: xs, j, u, h => by
   rw [List.flatMap_cons] at h
   rcases Nat.lt_or_ge j size with hj | hj
   · rw [List.getElem?_append_left (by rw [hf]; exact hj)] at h
     exact ⟨0, j, x, rfl, hj, by omega, h⟩
   · rw [List.getElem?_append_right (by rw [hf]; exact hj), hf] at h
     obtain ⟨i, k, y, h1, h2, h3, h4⟩ := flat_inv hf xs (j - size) u h
     refine ⟨i + 1, k, y, by simpa using h1, h2, ?_, h4⟩
     rw [Nat.add_mul]; omega
section
variable {H : Type} {enc : TypeId × Value → H} {P : Program} {w : World} {base : Nat} {spare : Nat → Bool} {held : Bool}
theorem arg_rowOf {α : Type} {f : α → List Value} {Q : α → Prop} {t e : TypeId} {size : Nat} (ht : P.underlying t = some (.slice e)) (hc : P.cellsOf e = size) (hp : 0 < size) (hf : ∀ x, (f x).length = size)
   (hel : ∀ n cs y, DataW.trod enc P w base spare held n e cs = some y → cs.length = size → ∃ x, cs = f x ∧ Q x)
   {fuel : Nat} {cs : List Value} {y : DataW H × List MemPlace} (h : DataW.trod enc P w base spare held fuel t cs = some y) :
   ∃ ao n cap xs, cs = [.slice ao n cap] ∧ ArgRow w f ao n cap xs ∧ ∀ x ∈ xs, Q x := by
 rcases Go.Deep.open_slice ht h with ⟨h0, _⟩ | ⟨a, len, cap, m, n, D, Pl, hcs, hb, hl, hm, hmm, hx, hi⟩
 · exact ⟨none, 0, 0, [], h0, ⟨rfl, Nat.le_refl _, by simp [maxLen], fun h => by omega⟩, by simp⟩
 have hlm : len ≤ m := by rw [hmm]; split <;> omega
 obtain ⟨xs, hxl, hxs⟩ := list_of (α := α) (R := fun i x => (∀ k, k < size → w.cell? (a.add (i * size + k)) = (f x)[k]?) ∧ Q x) len (fun i hil => by
   obtain ⟨cs', h1, h2⟩ := hi i (by omega)
   rw [hc] at h1
   obtain ⟨_, h3, h4⟩ := World.cells?_some h1
   obtain ⟨x, rfl, hq⟩ := hel n cs' _ h2 h3
   refine ⟨x, fun k hk => ?_, hq⟩
   rw [← Go.Deep.add_add, h4 k hk])
 refine ⟨some a, len, cap, xs, hcs, ⟨hxl, hl, hm, fun hn => ?_⟩, fun x hx => ?_⟩
 · obtain ⟨b, off, spot⟩ := a
   have h0 : 0 < xs.length := by omega
   have hspot : spot = none := by
     have h1 := (hxs 0 xs[0] (by simp)).1 0 hp
     rw [List.getElem?_eq_getElem (by rw [hf]; exact hp)] at h1
     simpa [Addr.add] using World.cell?_spot h1
   subst hspot
   refine ⟨b, off, rfl, fun j u hj => ?_⟩
   obtain ⟨i, k, x, h1, h2, rfl, h4⟩ := flat_inv hf xs j u hj
   rw [← add_plain, (hxs i x h1).1 k h2, h4]
 · obtain ⟨i, hi2, rfl⟩ := List.mem_iff_getElem.1 hx
   exact (hxs i _ (List.getElem?_eq_getElem hi2)).2
theorem arg_row {α : Type} {f : α → List Value} {Q : α → Prop} {t e : TypeId} {size : Nat} {v : Value} {d : DataW H} {ps : List MemPlace} {b0 : Nat} (ht : P.underlying t = some (.slice e)) (hc : P.cellsOf e = size) (hp : 0 < size) (hf : ∀ x, (f x).length = size)
   (hel : ∀ n cs y, DataW.trod enc P w base spare held n e cs = some y → cs.length = size → ∃ x, cs = f x ∧ Q x)
   (hval : Value.okWide P w .any b0 t v) (hd : DataW.Trod enc P w base spare held t v d ps) : ∃ ao n cap xs, v = .slice ao n cap ∧ ArgRow w f ao n cap xs ∧ ∀ x ∈ xs, Q x := by
 obtain ⟨ao, n, cap, rfl⟩ := okWide_slice ht hval
 obtain ⟨fuel, hfu⟩ := hd
 obtain ⟨ao', n', cap', xs, h1, h2, h3⟩ := arg_rowOf ht hc hp hf hel hfu
 simp [Value.cells] at h1
 obtain ⟨rfl, rfl, rfl⟩ := h1
 exact ⟨ao, n, cap, xs, rfl, h2, h3⟩
/-- A struct's fields, each one cell. -/
theorem struct_cells {t : TypeId} {fs : Array Field} (ht : P.underlying t = some (.struct fs)) (hone : oneCellFields P fs = true) {fuel : Nat} {cs : List Value} {y : DataW H × List MemPlace}
   (h : DataW.trod enc P w base spare held fuel t cs = some y) (hl : cs.length = fs.size) :
   ∃ n, ∀ (j : Nat) (f : Field), fs[j]? = some f → ∃ v z, cs[j]? = some v ∧ DataW.trod enc P w base spare held n f.type [v] = some z := by
 obtain ⟨ys, n, _, _, _, hyl, hg⟩ := DataW.trod_struct ht h
 refine ⟨n, fun j f hj => ?_⟩
 obtain ⟨ho, hk⟩ := hone_of hone j f hj
 have hjl : j < fs.size := (Array.getElem?_eq_some_iff.1 hj).1
 have h1 := hg j f hj
 rw [ho, hk, List.drop_eq_getElem_cons (by omega)] at h1
 have h2 : ys[j]? = some (ys[j]'(by omega)) := List.getElem?_eq_getElem (by omega)
 exact ⟨_, _, List.getElem?_eq_getElem (by omega), h1.trans h2⟩
end
/-! append of a slice that came in -/
theorem len_flatA {α : Type} {f : α → List Value} {size : Nat} (hf : ∀ x, (f x).length = size) : ∀ xs : List α, (xs.flatMap f).length = xs.length * size
 | [] => by simp
 | x :: xs => by rw [List.flatMap_cons, List.length_append, len_flatA hf xs, hf, List.length_cons, Nat.add_mul]; omega
theorem run_append_none {P : Program} {w : World} (t ty e : TypeId) (i : TypeInfo) (ht : P.underlying t = some (.slice e)) (hi : P.info? e = some i) (base : Option Addr) (n cap c : Nat) (hn : n ≤ cap) :
   (Builtin.append_ #[t, t] ty #[.slice base n cap, .slice none 0 c]).run P w = .ok (.slice base n cap) w := by
 cases base <;> simp [Builtin.append_, Builtin.firstCells, storeCells, run_underlying ht, sizeOf, typeInfo, hi, Builtin.lenOf, hn]
theorem wpList_append_arg {P : Program} {w : World} {ops : Array Oper} {rest : List Oper} {o : Oper} {a : Act} {Q : Exit → Act → World → Prop} (hgd : o.guard = none) (s x : Operand) (t : TypeId)
   (ho : o.op = .call { callee := .builtin .append, args := #[s, x], argTypes := #[t, t] })
   (e : TypeId) (i : TypeInfo) (z : Value) (size bytes : Nat) (ht : P.underlying t = some (.slice e)) (hi : P.info? e = some i) (hz : i.zero = some z)
   (hsize : i.size = size) (hby : i.bytes = bytes) (hzs : z.cells.size = size) (hsz : 0 < size)
   (v : Value) {α : Type} (f : α → List Value) (xs ys : List α) (l : List HProp) (hv : a.eval s = v) (hs : Sat w (rowT f v e size xs :: l))
   (ao : Option Addr) (m c : Nat) (hx : a.eval x = .slice ao m c) (ha : ArgRow w f ao m c ys) (hf : ∀ x, (f x).length = size) (h1 : ∀ u ∈ ys.flatMap f, u.oneCell' = true)
   (h63 : xs.length + m ≤ maxLen) (hbytes : (xs.length + m) * bytes ≤ 140737488355328)
   (h : ∀ v' w', Sat w' (rowT f v' e size (xs ++ ys) :: l) → Kp w w' → wpList P ops Q rest (a.put o.dst v') w') : wpList P ops Q (o :: rest) a w := by
 refine wpList_plain hgd fun K hK => ?_
 have hlen := ha.len
 have key : ∃ v' w', (Builtin.append_ #[t, t] o.type #[v, .slice ao m c]).run P w = .ok v' w' ∧ Sat w' (rowT f v' e size (xs ++ ys) :: l) ∧ Kp w w' := by
   rcases Nat.eq_zero_or_pos m with rfl | hm
   · have hys : ys = [] := List.eq_nil_of_length_eq_zero hlen
     subst hys
     rw [List.append_nil]
     cases ao with
     | none =>
       rcases hs.tForm with ⟨rfl, rfl⟩ | ⟨g, off, cap, rfl⟩
       · exact ⟨_, w, run_append_none t o.type e i ht hi none 0 0 c (Nat.le_refl _), hs, Kp.refl w⟩
       · exact ⟨_, w, run_append_none t o.type e i ht hi _ _ cap c hs.tCap.1, hs, Kp.refl w⟩
     | some ad =>
       obtain ⟨v', w', hr, h2, h3⟩ := run_append_row (P := P) t o.type e i z size bytes ht hi hz hsize hby hzs hsz hs ad 0 c [] (by simp) (by simp) (by simp) h63 hbytes
       exact ⟨v', w', hr, h2.tOf xs (by simp) (by simp), h3⟩
   · obtain ⟨b, off, rfl, hc⟩ := ha.cells hm
     obtain ⟨v', w', hr, h2, h3⟩ := run_append_row (P := P) t o.type e i z size bytes ht hi hz hsize hby hzs hsz hs ⟨b, off, none⟩ m c (ys.flatMap f) (by rw [len_flatA hf, hlen]) (fun j u hj => by rw [Addr.add_lit]; exact hc j u hj) h1 h63 hbytes
     exact ⟨v', w', hr, h2.tOf (xs ++ ys) (by simp [hlen]) (by simp), h3⟩
 obtain ⟨v', w', hr, h2, h3⟩ := key
 unfold Oper.wp execOp
 simp only [ho, resolve, invoke, builtin, Sem.run_bind, Sem.run_pure, Result.andThen_ok, List.map_toArray, List.map_cons, List.map_nil, hv, hx, hr]
 exact hK _ _ (h v' w' h2 h3)
/-! ### slices that are only read from now on, and may lie in several places -/
section
variable {α : Type} {f : α → List Value}
def Rd (f : α → List Value) (h : Hp) (v : Value) (ks : List α) : Prop := ∃ ao cap, v = .slice ao ks.length cap ∧ ks.length ≤ cap ∧ cap ≤ maxLen ∧ (0 < ks.length → ∃ b off cur e fz, ao = some ⟨b, off, none⟩ ∧ h b = some (.cells cur e fz) ∧ ∀ j u, (ks.flatMap f)[j]? = some u → cur[off + j]? = some u)
def poolP (f : α → List Value) (ps : List (Value × List α)) : HProp := fun h => ∀ p ∈ ps, Rd f h p.1 p.2
theorem Rd.mono {h h' : Hp} {v : Value} {ks : List α} (hr : Rd f h v ks) (hh : ∀ b o, h b = some o → h' b = some o) : Rd f h' v ks := by
 obtain ⟨ao, cap, h1, h2, h3, h4⟩ := hr
 refine ⟨ao, cap, h1, h2, h3, fun hp => ?_⟩
 obtain ⟨b, off, cur, e, fz, h5, h6, h7⟩ := h4 hp
 exact ⟨b, off, cur, e, fz, h5, hh _ _ h6, h7⟩
theorem Sat.poolNil {w : World} {l : List HProp} (f : α → List Value) (hs : Sat w l) : Sat w (poolP f [] :: l) := hs.emp.head fun _ _ p hp => by cases hp
theorem Sat.poolSub {w : World} {l : List HProp} {ps ps' : List (Value × List α)} (hs : Sat w (poolP f ps :: l)) (hsub : ∀ p ∈ ps', p ∈ ps) : Sat w (poolP f ps' :: l) := hs.head fun _ h p hp => h p (hsub p hp)
theorem rd_row {h : Hp} {v : Value} {e : TypeId} {size : Nat} {ks : List α} (hh : rowT f v e size ks h) : Rd f h v ks := by
 obtain ⟨hl, hh⟩ := hh
 rcases hh with ⟨rfl, hn, _⟩ | ⟨g, off, cap, cur, rfl, hn, hc, hsz, hx, ho⟩
 · exact ⟨none, 0, by rw [hn], by omega, by simp [maxLen], fun h => by omega⟩
 · refine ⟨_, cap, rfl, hn, hc, fun _ => ⟨g, off, cur, e, (0, 0), rfl, ho.1, fun j u hj => ?_⟩⟩
   rw [← hx] at hj
   have hj2 : j < ks.length * size := by
     have := (List.getElem?_eq_some_iff.1 hj).1
     rw [List.length_take] at this
     omega
   rw [drop_take_getElem? _ _ _ _ hj2, Array.getElem?_toList] at hj
   exact hj
/-- A slice of the call's own is only read from now on. -/
theorem Sat.poolIn {w : World} {l : List HProp} {v : Value} {e : TypeId} {size : Nat} {ks : List α} {ps : List (Value × List α)} (hs : Sat w (rowT f v e size ks :: poolP f ps :: l)) : Sat w (poolP f ((v, ks) :: ps) :: l) := by
 refine hs.join.head ?_
 rintro h ⟨h1, h2, hd, he, a, b⟩ p hp
 rcases List.mem_cons.1 hp with rfl | hp
 · exact (rd_row a).mono fun x o hx => by rw [he, hx]; rfl
 · exact (b p hp).mono fun x o hx => by
     rw [he, (hd x).resolve_right (by rw [hx]; simp)]
     simpa using hx
theorem Sat.poolArg {w : World} {l : List HProp} {v : Value} {ks : List α} {ps : List (Value × List α)} (hs : Sat w (poolP f ps :: l)) (hp : (v, ks) ∈ ps) : ∃ ao cap, v = .slice ao ks.length cap ∧ ArgRow w f ao ks.length cap ks := by
 obtain ⟨h, ⟨h1, h2, hd, he, a, _⟩, hw⟩ := hs
 obtain ⟨ao, cap, e1, e2, e3, e4⟩ := a _ hp
 refine ⟨ao, cap, e1, rfl, e2, e3, fun hn => ?_⟩
 obtain ⟨b, off, cur, e, fz, e5, e6, e7⟩ := e4 hn
 refine ⟨b, off, e5, fun j u hj => ?_⟩
 have hb := hw b (.cells cur e fz) (by rw [he, e6]; rfl)
 rw [cell_of_row w b (off + j) cur e fz hb]
 exact e7 j u hj
/-- The same, told of the slice's form. -/
theorem Sat.poolArg' {w : World} {l : List HProp} {ao : Option Addr} {n cap : Nat} {ks : List α} {ps : List (Value × List α)} (hs : Sat w (poolP f ps :: l)) (hp : (.slice ao n cap, ks) ∈ ps) : ArgRow w f ao n cap ks := by
 obtain ⟨ao', cap', e, h⟩ := hs.poolArg hp
 simp only [Value.slice.injEq] at e
 obtain ⟨rfl, rfl, rfl⟩ := e
 exact h
/-- The same slice stands in any later world with its piece. -/
theorem ArgRow.cell {w : World} {ao : Option Addr} {n cap : Nat} {ks : List α} {size : Nat} (hf : ∀ x, (f x).length = size) (h : ArgRow w f ao n cap ks) {b off i : Nat} (k : Nat) {x : α} {u : Value} (hao : ao = some ⟨b, off, none⟩) (hx : ks[i]? = some x) (hu : (f x)[k]? = some u) : w.cell? ⟨b, off + i * size + k, none⟩ = some u := by
 have hk : k < size := by have := (List.getElem?_eq_some_iff.1 hu).1; rwa [hf] at this
 have hi := (List.getElem?_eq_some_iff.1 hx).1
 have hl := h.len
 obtain ⟨b', off', e, hc⟩ := h.cells (by omega)
 rw [hao] at e
 simp only [Option.some.injEq, Addr.mk.injEq, and_true] at e
 obtain ⟨rfl, rfl⟩ := e
 rw [Nat.add_assoc]
 exact hc _ _ (by rw [get_flat hf ks i k x hx hk]; exact hu)
theorem ArgRow.some {w : World} {ao : Option Addr} {n cap : Nat} {ks : List α} (h : ArgRow w f ao n cap ks) {i : Nat} (hi : i < n) : ∃ b off, ao = some ⟨b, off, none⟩ := by
 obtain ⟨b, off, e, _⟩ := h.cells (by omega)
 exact ⟨b, off, e⟩
end
section
variable {H : Type} {enc : TypeId × Value → H} {w : World} {base : Nat} {spare : Nat → Bool} {held : Bool}
theorem open_bl (n : Nat) (cs : List Value) (y : DataW H × List MemPlace) (h : DataW.trod enc Tryz.prog w base spare held n 4 cs = some y) (hl : cs.length = 1) : ∃ x : Bool, cs = fB x ∧ True := by
 obtain ⟨x, e, _⟩ := DataW.trod_bool Tryz.underlying4 h
 exact ⟨x, e, trivial⟩
end
end Go.Proofs.YtddglbjhhnipgaaGreatDoor

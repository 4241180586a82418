import Derived.Test.YtddglbjhhnipgaaGreatDoorGA
namespace Go.Proofs.YtddglbjhhnipgaaGreatDoor
open Go Go.RowKit
set_option linter.unusedVariables false
set_option linter.unusedSimpArgs false
set_option maxRecDepth 100000
set_option maxHeartbeats 8000000
/-! ### maps of which each version stays, with no program in sight -/
/-- A handle. -/
structure Hd where
 s : Int
 g : Int
def Hd.nil : Hd := ⟨0, 0⟩
/-- A version's nodes: each one's handle, if it lies in the arena. -/
inductive HT (κ ν : Type)
 | leaf : HT κ ν
 | node (h : Option Hd) (k : κ) (v : ν) (l r : HT κ ν) (hi : Int) : HT κ ν
section
variable {κ ν : Type}
def hdOf : Option Hd → Hd | some h => h | none => Hd.nil
def HT.root : HT κ ν → Hd | .leaf => Hd.nil | .node h _ _ _ _ _ => hdOf h
def HT.high : HT κ ν → Int | .leaf => 0 | .node _ _ _ _ _ hi => hi
def HT.size : HT κ ν → Nat | .leaf => 0 | .node _ _ _ l r _ => l.size + r.size + 1
def toL : HT κ ν → List (κ × ν) | .leaf => [] | .node _ k v l r _ => toL l ++ (k, v) :: toL r
def lv : Option Hd → List Hd | some h => [h] | none => []
def hds : HT κ ν → List Hd | .leaf => [] | .node h _ _ l r _ => lv h ++ (hds l ++ hds r)
theorem toL_len (t : HT κ ν) : (toL t).length = t.size := by
 induction t with
 | leaf => rfl
 | node h k v l r hi ihl ihr => simp only [toL, HT.size, List.length_append, List.length_cons, ihl, ihr]; omega
def HiOk : HT κ ν → Prop | .leaf => True | .node _ _ _ l r hi => hi = 1 + max l.high r.high ∧ HiOk l ∧ HiOk r
theorem HiOk.pos : ∀ {t : HT κ ν}, HiOk t → 0 ≤ t.high ∧ t.high ≤ t.size
 | .leaf, _ => ⟨Int.le_refl _, by simp [HT.high, HT.size]⟩
 | .node h k v l r hi, ⟨h1, h2, h3⟩ => by
   have a := h2.pos
   have b := h3.pos
   simp only [HT.high, HT.size]
   rw [h1]
   constructor
   · omega
   · push_cast; omega
theorem HiOk.zero {t : HT κ ν} (h : HiOk t) (hz : t.high ≤ 0) : t = .leaf := by
 cases t with
 | leaf => rfl
 | node _ k v l r hi =>
   obtain ⟨h1, h2, h3⟩ := h
   have a := h2.pos
   have b := h3.pos
   simp only [HT.high] at hz
   omega
def nodeT (k : κ) (v : ν) (l r : HT κ ν) : HT κ ν := .node none k v l r (1 + max l.high r.high)
def fromL (h : Option Hd) (k : κ) (v : ν) (left right : HT κ ν) : HT κ ν × List Hd := match left with
 | .node lh lk lv' ll lr _ => if lr.high ≤ ll.high then (nodeT lk lv' ll (nodeT k v lr right), lv h ++ lv lh) else match lr with
   | .node mh mk mv ml mr _ => (nodeT mk mv (nodeT lk lv' ll ml) (nodeT k v mr right), lv lh ++ (lv h ++ lv mh))
   | .leaf => (nodeT k v left right, lv h)
 | .leaf => (nodeT k v left right, lv h)
def fromR (h : Option Hd) (k : κ) (v : ν) (left right : HT κ ν) : HT κ ν × List Hd := match right with
 | .node rh rk rv rl rr _ => if rl.high ≤ rr.high then (nodeT rk rv (nodeT k v left rl) rr, lv h ++ lv rh) else match rl with
   | .node mh mk mv ml mr _ => (nodeT mk mv (nodeT k v left ml) (nodeT rk rv mr rr), lv h ++ (lv rh ++ lv mh))
   | .leaf => (nodeT k v left right, lv h)
 | .leaf => (nodeT k v left right, lv h)
def balT (h : Option Hd) (k : κ) (v : ν) (l r : HT κ ν) : HT κ ν × List Hd :=
 if 1 < l.high - r.high then fromL h k v l r else if l.high - r.high < -1 then fromR h k v l r else (nodeT k v l r, lv h)
def putT (cmp : κ → κ → Int) (k : κ) (v : ν) : HT κ ν → HT κ ν × List Hd
 | .leaf => (.node none k v .leaf .leaf 1, [])
 | .node h tk tv l r hi => if cmp k tk < 0 then ((balT h tk tv (putT cmp k v l).1 r).1, (putT cmp k v l).2 ++ (balT h tk tv (putT cmp k v l).1 r).2)
   else if 0 < cmp k tk then ((balT h tk tv l (putT cmp k v r).1).1, (putT cmp k v r).2 ++ (balT h tk tv l (putT cmp k v r).1).2)
   else (.node none k v l r hi, lv h)
/-- The least node (its handle, key, value), the tree without it, and what is gone. -/
def leastT (h : Option Hd) (k : κ) (v : ν) (r : HT κ ν) : HT κ ν → (Option Hd × κ × ν) × HT κ ν × List Hd
 | .leaf => ((h, k, v), r, [])
 | .node h' k' v' l' r' _ => ((leastT h' k' v' r' l').1, (balT h k v (leastT h' k' v' r' l').2.1 r).1, (leastT h' k' v' r' l').2.2 ++ (balT h k v (leastT h' k' v' r' l').2.1 r).2)
def delT (cmp : κ → κ → Int) (k : κ) : HT κ ν → HT κ ν × List Hd
 | .leaf => (.leaf, [])
 | .node h tk tv l r hi => if cmp k tk < 0 then ((balT h tk tv (delT cmp k l).1 r).1, (delT cmp k l).2 ++ (balT h tk tv (delT cmp k l).1 r).2)
   else if 0 < cmp k tk then ((balT h tk tv l (delT cmp k r).1).1, (delT cmp k r).2 ++ (balT h tk tv l (delT cmp k r).1).2)
   else match l, r with
     | .leaf, r => (r, lv h)
     | l, .leaf => (l, lv h)
     | l, .node rh rk rv rl rr _ => ((balT (leastT rh rk rv rr rl).1.1 (leastT rh rk rv rr rl).1.2.1 (leastT rh rk rv rr rl).1.2.2 l (leastT rh rk rv rr rl).2.1).1,
         lv h ++ ((leastT rh rk rv rr rl).2.2 ++ (balT (leastT rh rk rv rr rl).1.1 (leastT rh rk rv rr rl).1.2.1 (leastT rh rk rv rr rl).1.2.2 l (leastT rh rk rv rr rl).2.1).2))
theorem nodeT_toL (k : κ) (v : ν) (l r : HT κ ν) : toL (nodeT k v l r) = toL l ++ (k, v) :: toL r := rfl
theorem fromL_toL (h : Option Hd) (k : κ) (v : ν) (l r : HT κ ν) : toL (fromL h k v l r).1 = toL l ++ (k, v) :: toL r := by
 unfold fromL
 split
 · split
   · simp [nodeT, toL]
   · split
     · simp [nodeT, toL]
     · rfl
 · rfl
theorem fromR_toL (h : Option Hd) (k : κ) (v : ν) (l r : HT κ ν) : toL (fromR h k v l r).1 = toL l ++ (k, v) :: toL r := by
 unfold fromR
 split
 · split
   · simp [nodeT, toL]
   · split
     · simp [nodeT, toL]
     · rfl
 · rfl
theorem balT_toL (h : Option Hd) (k : κ) (v : ν) (l r : HT κ ν) : toL (balT h k v l r).1 = toL l ++ (k, v) :: toL r := by
 unfold balT
 split
 · exact fromL_toL h k v l r
 · split
   · exact fromR_toL h k v l r
   · rfl
theorem nodeT_hi {k : κ} {v : ν} {l r : HT κ ν} (hl : HiOk l) (hr : HiOk r) : HiOk (nodeT k v l r) := ⟨rfl, hl, hr⟩
theorem fromL_hi {h : Option Hd} {k : κ} {v : ν} {l r : HT κ ν} (hl : HiOk l) (hr : HiOk r) : HiOk (fromL h k v l r).1 := by
 unfold fromL
 split
 · obtain ⟨_, a, b⟩ := hl
   split
   · exact nodeT_hi a (nodeT_hi b hr)
   · split
     · obtain ⟨_, c, d⟩ := b
       exact nodeT_hi (nodeT_hi a c) (nodeT_hi d hr)
     · rename_i h1 h2
       exact nodeT_hi ⟨‹_›, a, trivial⟩ hr
 · exact nodeT_hi trivial hr
theorem fromR_hi {h : Option Hd} {k : κ} {v : ν} {l r : HT κ ν} (hl : HiOk l) (hr : HiOk r) : HiOk (fromR h k v l r).1 := by
 unfold fromR
 split
 · obtain ⟨_, a, b⟩ := hr
   split
   · exact nodeT_hi (nodeT_hi hl a) b
   · split
     · obtain ⟨_, c, d⟩ := a
       exact nodeT_hi (nodeT_hi hl c) (nodeT_hi d b)
     · exact nodeT_hi hl ⟨‹_›, trivial, b⟩
 · exact nodeT_hi hl trivial
theorem balT_hi {h : Option Hd} {k : κ} {v : ν} {l r : HT κ ν} (hl : HiOk l) (hr : HiOk r) : HiOk (balT h k v l r).1 := by
 unfold balT
 split
 · exact fromL_hi hl hr
 · split
   · exact fromR_hi hl hr
   · exact nodeT_hi hl hr
theorem putT_hi {cmp : κ → κ → Int} {k : κ} {v : ν} : ∀ {t : HT κ ν}, HiOk t → HiOk (putT cmp k v t).1
 | .leaf, _ => ⟨rfl, trivial, trivial⟩
 | .node h tk tv l r hi, ⟨h1, h2, h3⟩ => by
   unfold putT
   split
   · exact balT_hi (putT_hi h2) h3
   · split
     · exact balT_hi h2 (putT_hi h3)
     · exact ⟨h1, h2, h3⟩
theorem leastT_hi : ∀ {l : HT κ ν} {h : Option Hd} {k : κ} {v : ν} {r : HT κ ν}, HiOk l → HiOk r → HiOk (leastT h k v r l).2.1
 | .leaf, h, k, v, r, _, hr => hr
 | .node h' k' v' l' r' _, h, k, v, r, ⟨_, h2, h3⟩, hr => balT_hi (leastT_hi h2 h3) hr
theorem delT_hi {cmp : κ → κ → Int} {k : κ} : ∀ {t : HT κ ν}, HiOk t → HiOk (delT cmp k t).1
 | .leaf, _ => trivial
 | .node h tk tv l r hi, ⟨h1, h2, h3⟩ => by
   unfold delT
   split
   · exact balT_hi (delT_hi h2) h3
   · split
     · exact balT_hi h2 (delT_hi h3)
     · split
       · exact h3
       · exact h2
       · obtain ⟨_, a, b⟩ := h3
         exact balT_hi h2 (leastT_hi a b)
/-! what lies in an arena -/
structure SlotD (κ ν : Type) where
 gen : Int
 used : Bool
 k : κ
 v : ν
 lh : Hd
 rh : Hd
 hi : Int
def InA (A : List (SlotD κ ν)) (h : Hd) (s : SlotD κ ν) : Prop := ∃ i : Nat, h.s = i + 1 ∧ A[i]? = some s ∧ s.used = true ∧ s.gen = h.g
theorem InA.uniq {A : List (SlotD κ ν)} {h : Hd} {s s' : SlotD κ ν} (a : InA A h s) (b : InA A h s') : s = s' := by
 obtain ⟨i, h1, h2, _⟩ := a
 obtain ⟨j, g1, g2, _⟩ := b
 obtain rfl : i = j := by omega
 rw [h2] at g2
 exact Option.some.inj g2
/-- Nothing of the one is gone in the other. -/
def ALe (A A' : List (SlotD κ ν)) : Prop := ∀ h s, InA A h s → InA A' h s
def RepO (A : List (SlotD κ ν)) : HT κ ν → Prop
 | .leaf => True
 | .node h k v l r hi => (∃ hd, h = some hd ∧ ∃ s, InA A hd s ∧ s.k = k ∧ s.v = v ∧ s.lh = l.root ∧ s.rh = r.root ∧ s.hi = hi) ∧ RepO A l ∧ RepO A r
def RepF (A : List (SlotD κ ν)) : HT κ ν → Prop
 | .leaf => True
 | .node none _ _ l r _ => RepF A l ∧ RepF A r
 | .node (some h) k v l r hi => RepO A (.node (some h) k v l r hi)
theorem RepO.mono {A A' : List (SlotD κ ν)} (hA : ALe A A') : ∀ {t : HT κ ν}, RepO A t → RepO A' t
 | .leaf, _ => trivial
 | .node h k v l r hi, ⟨⟨hd, e, s, h1, h2⟩, h3, h4⟩ => ⟨⟨hd, e, s, hA _ _ h1, h2⟩, h3.mono hA, h4.mono hA⟩
theorem RepO.repF {A : List (SlotD κ ν)} : ∀ {t : HT κ ν}, RepO A t → RepF A t
 | .leaf, _ => trivial
 | .node (some h) k v l r hi, h1 => h1
 | .node none k v l r hi, ⟨⟨hd, e, _⟩, _⟩ => by cases e
theorem RepF.left {A : List (SlotD κ ν)} {h : Option Hd} {k : κ} {v : ν} {l r : HT κ ν} {hi : Int} (hr : RepF A (.node h k v l r hi)) : RepF A l := by
 cases h with
 | none => exact hr.1
 | some h => exact RepO.repF hr.2.1
theorem RepF.right {A : List (SlotD κ ν)} {h : Option Hd} {k : κ} {v : ν} {l r : HT κ ν} {hi : Int} (hr : RepF A (.node h k v l r hi)) : RepF A r := by
 cases h with
 | none => exact hr.2
 | some h => exact RepO.repF hr.2.2
theorem nodeT_rep {A : List (SlotD κ ν)} {k : κ} {v : ν} {l r : HT κ ν} (hl : RepF A l) (hr : RepF A r) : RepF A (nodeT k v l r) := ⟨hl, hr⟩
theorem fromL_rep {A : List (SlotD κ ν)} {h : Option Hd} {k : κ} {v : ν} {l r : HT κ ν} (hl : RepF A l) (hr : RepF A r) : RepF A (fromL h k v l r).1 := by
 unfold fromL
 split
 · split
   · exact nodeT_rep hl.left (nodeT_rep hl.right hr)
   · split
     · exact nodeT_rep (nodeT_rep hl.left hl.right.left) (nodeT_rep hl.right.right hr)
     · exact nodeT_rep hl hr
 · exact nodeT_rep trivial hr
theorem fromR_rep {A : List (SlotD κ ν)} {h : Option Hd} {k : κ} {v : ν} {l r : HT κ ν} (hl : RepF A l) (hr : RepF A r) : RepF A (fromR h k v l r).1 := by
 unfold fromR
 split
 · split
   · exact nodeT_rep (nodeT_rep hl hr.left) hr.right
   · split
     · exact nodeT_rep (nodeT_rep hl hr.left.left) (nodeT_rep hr.left.right hr.right)
     · exact nodeT_rep hl hr
 · exact nodeT_rep hl trivial
theorem balT_rep {A : List (SlotD κ ν)} {h : Option Hd} {k : κ} {v : ν} {l r : HT κ ν} (hl : RepF A l) (hr : RepF A r) : RepF A (balT h k v l r).1 := by
 unfold balT
 split
 · exact fromL_rep hl hr
 · split
   · exact fromR_rep hl hr
   · exact nodeT_rep hl hr
theorem putT_rep {A : List (SlotD κ ν)} {cmp : κ → κ → Int} {k : κ} {v : ν} : ∀ {t : HT κ ν}, RepF A t → RepF A (putT cmp k v t).1
 | .leaf, _ => ⟨trivial, trivial⟩
 | .node h tk tv l r hi, hr => by
   unfold putT
   split
   · exact balT_rep (putT_rep hr.left) hr.right
   · split
     · exact balT_rep hr.left (putT_rep hr.right)
     · exact ⟨hr.left, hr.right⟩
theorem leastT_rep {A : List (SlotD κ ν)} : ∀ {l : HT κ ν} {h : Option Hd} {k : κ} {v : ν} {r : HT κ ν}, RepF A l → RepF A r → RepF A (leastT h k v r l).2.1
 | .leaf, h, k, v, r, _, hr => hr
 | .node h' k' v' l' r' _, h, k, v, r, hl, hr => balT_rep (leastT_rep hl.left hl.right) hr
theorem delT_rep {A : List (SlotD κ ν)} {cmp : κ → κ → Int} {k : κ} : ∀ {t : HT κ ν}, RepF A t → RepF A (delT cmp k t).1
 | .leaf, _ => trivial
 | .node h tk tv l r hi, hr => by
   unfold delT
   split
   · exact balT_rep (delT_rep hr.left) hr.right
   · split
     · exact balT_rep hr.left (delT_rep hr.right)
     · split
       · exact hr.right
       · exact hr.left
       · exact balT_rep hr.left (leastT_rep hr.right.left hr.right.right)
end
section
variable {κ ν : Type}
/-- How keys stand. -/
structure OrdC (cmp : κ → κ → Int) : Prop where
 eq : ∀ a b, cmp a b = 0 ↔ a = b
 anti : ∀ a b, 0 < cmp a b ↔ cmp b a < 0
 trans : ∀ a b c, cmp a b < 0 → cmp b c < 0 → cmp a c < 0
def Srt (cmp : κ → κ → Int) (t : HT κ ν) : Prop := (toL t).Pairwise fun x y => cmp x.1 y.1 < 0
theorem srt_node {cmp : κ → κ → Int} {h : Option Hd} {k : κ} {v : ν} {l r : HT κ ν} {hi : Int} : Srt cmp (.node h k v l r hi) ↔ Srt cmp l ∧ Srt cmp r ∧ (∀ x ∈ toL l, cmp x.1 k < 0) ∧ (∀ y ∈ toL r, cmp k y.1 < 0) ∧ ∀ x ∈ toL l, ∀ y ∈ toL r, cmp x.1 y.1 < 0 := by
 unfold Srt
 simp only [toL, List.pairwise_append, List.pairwise_cons, List.mem_cons]
 constructor
 · rintro ⟨h1, ⟨h2, h3⟩, h4⟩
   exact ⟨h1, h3, fun x hx => h4 x hx _ (.inl rfl), h2, fun x hx y hy => h4 x hx y (.inr hy)⟩
 · rintro ⟨h1, h2, h3, h4, h5⟩
   refine ⟨h1, ⟨h4, h2⟩, fun x hx y hy => ?_⟩
   rcases hy with rfl | hy
   · exact h3 x hx
   · exact h5 x hx y hy
theorem bal_srt {cmp : κ → κ → Int} {h : Option Hd} {k : κ} {v : ν} {l r : HT κ ν} : Srt cmp (balT h k v l r).1 ↔ Srt cmp (.node h k v l r 0) := by
 unfold Srt
 rw [balT_toL]
 rfl
theorem bal_mem {h : Option Hd} {k : κ} {v : ν} {l r : HT κ ν} {x : κ × ν} : x ∈ toL (balT h k v l r).1 ↔ x ∈ toL l ∨ x = (k, v) ∨ x ∈ toL r := by
 rw [balT_toL]
 simp
theorem putT_spec {cmp : κ → κ → Int} (ho : OrdC cmp) (k : κ) (v : ν) : ∀ {t : HT κ ν}, Srt cmp t → Srt cmp (putT cmp k v t).1 ∧ ∀ x, x ∈ toL (putT cmp k v t).1 ↔ x = (k, v) ∨ (x ∈ toL t ∧ x.1 ≠ k)
 | .leaf, _ => ⟨by simp [Srt, putT, toL], fun x => by simp [putT, toL]⟩
 | .node h tk tv l r hi, hs => by
   obtain ⟨h1, h2, h3, h4, h5⟩ := srt_node.1 hs
   have hne : ∀ a b : κ, cmp a b < 0 → a ≠ b := fun a b hab e => by
     have := (ho.eq a b).2 e
     omega
   unfold putT
   by_cases c1 : cmp k tk < 0
   · rw [if_pos c1]
     obtain ⟨i1, i2⟩ := putT_spec ho k v h1
     constructor
     · rw [bal_srt]
       refine srt_node.2 ⟨i1, h2, fun x hx => ?_, h4, fun x hx y hy => ?_⟩
       · rcases (i2 x).1 hx with rfl | ⟨hx, _⟩
         · exact c1
         · exact h3 x hx
       · rcases (i2 x).1 hx with rfl | ⟨hx, _⟩
         · exact ho.trans _ _ _ c1 (h4 y hy)
         · exact h5 x hx y hy
     · intro x
       rw [bal_mem, i2]
       simp only [toL, List.mem_append, List.mem_cons]
       constructor
       · rintro ((h | ⟨h, hk⟩) | rfl | h)
         · exact .inl h
         · exact .inr ⟨.inl h, hk⟩
         · exact .inr ⟨.inr (.inl rfl), (hne _ _ c1).symm⟩
         · exact .inr ⟨.inr (.inr h), (hne _ _ (ho.trans _ _ _ c1 (h4 x h))).symm⟩
       · rintro (h | ⟨h | rfl | h, hk⟩)
         · exact .inl (.inl h)
         · exact .inl (.inr ⟨h, hk⟩)
         · exact .inr (.inl rfl)
         · exact .inr (.inr h)
   · rw [if_neg c1]
     by_cases c2 : 0 < cmp k tk
     · rw [if_pos c2]
       have c2' := (ho.anti _ _).1 c2
       obtain ⟨i1, i2⟩ := putT_spec ho k v h2
       constructor
       · rw [bal_srt]
         refine srt_node.2 ⟨h1, i1, h3, fun x hx => ?_, fun x hx y hy => ?_⟩
         · rcases (i2 x).1 hx with rfl | ⟨hx, _⟩
           · exact c2'
           · exact h4 x hx
         · rcases (i2 y).1 hy with rfl | ⟨hy, _⟩
           · exact ho.trans _ _ _ (h3 x hx) c2'
           · exact h5 x hx y hy
       · intro x
         rw [bal_mem, i2]
         simp only [toL, List.mem_append, List.mem_cons]
         constructor
         · rintro (h | rfl | (h | ⟨h, hk⟩))
           · exact .inr ⟨.inl h, hne _ _ (ho.trans _ _ _ (h3 x h) c2')⟩
           · exact .inr ⟨.inr (.inl rfl), hne _ _ c2'⟩
           · exact .inl h
           · exact .inr ⟨.inr (.inr h), hk⟩
         · rintro (h | ⟨h | rfl | h, hk⟩)
           · exact .inr (.inr (.inl h))
           · exact .inl h
           · exact .inr (.inl rfl)
           · exact .inr (.inr (.inr ⟨h, hk⟩))
     · rw [if_neg c2]
       obtain rfl : k = tk := (ho.eq _ _).1 (by omega)
       refine ⟨srt_node.2 ⟨h1, h2, h3, h4, h5⟩, fun x => ?_⟩
       simp only [toL, List.mem_append, List.mem_cons]
       constructor
       · rintro (h | rfl | h)
         · exact .inr ⟨.inl h, hne _ _ (h3 x h)⟩
         · exact .inl rfl
         · exact .inr ⟨.inr (.inr h), (hne _ _ (h4 x h)).symm⟩
       · rintro (h | ⟨h | rfl | h, hk⟩)
         · exact .inr (.inl h)
         · exact .inl h
         · exact absurd rfl hk
         · exact .inr (.inr h)
theorem leastT_toL : ∀ {l : HT κ ν} {h : Option Hd} {k : κ} {v : ν} {r : HT κ ν}, toL l ++ (k, v) :: toL r = ((leastT h k v r l).1.2.1, (leastT h k v r l).1.2.2) :: toL (leastT h k v r l).2.1
 | .leaf, h, k, v, r => rfl
 | .node h' k' v' l' r' _, h, k, v, r => by
   have ih := leastT_toL (l := l') (h := h') (k := k') (v := v') (r := r')
   show (toL l' ++ (k', v') :: toL r') ++ (k, v) :: toL r = _
   rw [ih]
   show _ = _ :: toL (balT h k v (leastT h' k' v' r' l').2.1 r).1
   rw [balT_toL]
   rfl
theorem delT_spec {cmp : κ → κ → Int} (ho : OrdC cmp) (k : κ) : ∀ {t : HT κ ν}, Srt cmp t → (toL (delT cmp k t).1).Sublist (toL t) ∧ ∀ x, x ∈ toL (delT cmp k t).1 ↔ x ∈ toL t ∧ x.1 ≠ k
 | .leaf, _ => ⟨List.Sublist.refl _, fun x => by simp [delT, toL]⟩
 | .node h tk tv l r hi, hs => by
   obtain ⟨h1, h2, h3, h4, h5⟩ := srt_node.1 hs
   have hne : ∀ a b : κ, cmp a b < 0 → a ≠ b := fun a b hab e => by
     have := (ho.eq a b).2 e
     omega
   unfold delT
   by_cases c1 : cmp k tk < 0
   · rw [if_pos c1]
     obtain ⟨i1, i2⟩ := delT_spec ho k h1
     constructor
     · rw [balT_toL]
       exact List.Sublist.append i1 (List.Sublist.refl _)
     · intro x
       rw [bal_mem, i2]
       simp only [toL, List.mem_append, List.mem_cons]
       constructor
       · rintro (⟨h, hk⟩ | rfl | h)
         · exact ⟨.inl h, hk⟩
         · exact ⟨.inr (.inl rfl), (hne _ _ c1).symm⟩
         · exact ⟨.inr (.inr h), (hne _ _ (ho.trans _ _ _ c1 (h4 x h))).symm⟩
       · rintro ⟨h | rfl | h, hk⟩
         · exact .inl ⟨h, hk⟩
         · exact .inr (.inl rfl)
         · exact .inr (.inr h)
   · rw [if_neg c1]
     by_cases c2 : 0 < cmp k tk
     · rw [if_pos c2]
       have c2' := (ho.anti _ _).1 c2
       obtain ⟨i1, i2⟩ := delT_spec ho k h2
       constructor
       · rw [balT_toL]
         exact List.Sublist.append (List.Sublist.refl _) (i1.cons_cons _)
       · intro x
         rw [bal_mem, i2]
         simp only [toL, List.mem_append, List.mem_cons]
         constructor
         · rintro (h | rfl | ⟨h, hk⟩)
           · exact ⟨.inl h, hne _ _ (ho.trans _ _ _ (h3 x h) c2')⟩
           · exact ⟨.inr (.inl rfl), hne _ _ c2'⟩
           · exact ⟨.inr (.inr h), hk⟩
         · rintro ⟨h | rfl | h, hk⟩
           · exact .inl h
           · exact .inr (.inl rfl)
           · exact .inr (.inr ⟨h, hk⟩)
     · rw [if_neg c2]
       obtain rfl : k = tk := (ho.eq _ _).1 (by omega)
       have key : ∀ t' : HT κ ν, toL t' = toL l ++ toL r → (toL t').Sublist (toL (.node h k tv l r hi)) ∧ ∀ x, x ∈ toL t' ↔ x ∈ toL (.node h k tv l r hi) ∧ x.1 ≠ k := fun t' e => by
         rw [e]
         refine ⟨List.Sublist.append (List.Sublist.refl _) (List.sublist_cons_self _ _), fun x => ?_⟩
         simp only [toL, List.mem_append, List.mem_cons]
         constructor
         · rintro (h | h)
           · exact ⟨.inl h, hne _ _ (h3 x h)⟩
           · exact ⟨.inr (.inr h), (hne _ _ (h4 x h)).symm⟩
         · rintro ⟨h | rfl | h, hk⟩
           · exact .inl h
           · exact absurd rfl hk
           · exact .inr h
       split
       · exact key _ rfl
       · exact key _ (by simp [toL])
       · rename_i rh rk rv rl rr rhi hne3
         refine key _ ?_
         rw [balT_toL]
         show _ = toL _ ++ (toL rl ++ (rk, rv) :: toL rr)
         rw [leastT_toL (l := rl) (h := rh) (k := rk) (v := rv) (r := rr)]
theorem Srt.del {cmp : κ → κ → Int} (ho : OrdC cmp) (k : κ) {t : HT κ ν} (h : Srt cmp t) : Srt cmp (delT cmp k t).1 := List.Pairwise.sublist (delT_spec ho k h).1 h
/-! handles: what is gone was there, and isn't any more -/
noncomputable instance : DecidableEq Hd := fun _ _ => Classical.propDecidable _
theorem perm_of {a b : List Hd} (h : ∀ x, a.count x = b.count x) : a.Perm b := List.perm_iff_count.2 h
theorem nodeT_hds (k : κ) (v : ν) (l r : HT κ ν) : hds (nodeT k v l r) = hds l ++ hds r := rfl
theorem fromL_hds (h : Option Hd) (k : κ) (v : ν) (l r : HT κ ν) : (hds (fromL h k v l r).1 ++ (fromL h k v l r).2).Perm (lv h ++ (hds l ++ hds r)) := by
 refine perm_of fun x => ?_
 unfold fromL
 split
 · split
   · simp [nodeT_hds, hds, List.count_append]; omega
   · split
     · simp [nodeT_hds, hds, List.count_append]; omega
     · simp [nodeT_hds, hds, List.count_append]; omega
 · simp [nodeT_hds, hds, List.count_append]; omega
theorem fromR_hds (h : Option Hd) (k : κ) (v : ν) (l r : HT κ ν) : (hds (fromR h k v l r).1 ++ (fromR h k v l r).2).Perm (lv h ++ (hds l ++ hds r)) := by
 refine perm_of fun x => ?_
 unfold fromR
 split
 · split
   · simp [nodeT_hds, hds, List.count_append]; omega
   · split
     · simp [nodeT_hds, hds, List.count_append]; omega
     · simp [nodeT_hds, hds, List.count_append]; omega
 · simp [nodeT_hds, hds, List.count_append]; omega
theorem balT_hds (h : Option Hd) (k : κ) (v : ν) (l r : HT κ ν) : (hds (balT h k v l r).1 ++ (balT h k v l r).2).Perm (lv h ++ (hds l ++ hds r)) := by
 unfold balT
 split
 · exact fromL_hds h k v l r
 · split
   · exact fromR_hds h k v l r
   · refine perm_of fun x => ?_
     simp [nodeT_hds, List.count_append]; omega
theorem putT_hds (cmp : κ → κ → Int) (k : κ) (v : ν) : ∀ t : HT κ ν, (hds (putT cmp k v t).1 ++ (putT cmp k v t).2).Perm (hds t)
 | .leaf => by simp [putT, hds, lv]
 | .node h tk tv l r hi => by
   refine perm_of fun x => ?_
   unfold putT
   split
   · have i := List.perm_iff_count.1 (putT_hds cmp k v l) x
     have b := List.perm_iff_count.1 (balT_hds h tk tv (putT cmp k v l).1 r) x
     simp only [List.count_append, hds] at i b ⊢
     omega
   · split
     · have i := List.perm_iff_count.1 (putT_hds cmp k v r) x
       have b := List.perm_iff_count.1 (balT_hds h tk tv l (putT cmp k v r).1) x
       simp only [List.count_append, hds] at i b ⊢
       omega
     · simp only [List.count_append, hds, lv, List.nil_append]
       omega
theorem leastT_hds : ∀ (l : HT κ ν) (h : Option Hd) (k : κ) (v : ν) (r : HT κ ν), (lv (leastT h k v r l).1.1 ++ (hds (leastT h k v r l).2.1 ++ (leastT h k v r l).2.2)).Perm (lv h ++ (hds l ++ hds r))
 | .leaf, h, k, v, r => by simp [leastT, hds]
 | .node h' k' v' l' r' _, h, k, v, r => by
   refine perm_of fun x => ?_
   have i := List.perm_iff_count.1 (leastT_hds l' h' k' v' r') x
   have b := List.perm_iff_count.1 (balT_hds h k v (leastT h' k' v' r' l').2.1 r) x
   simp only [leastT, List.count_append, hds] at i b ⊢
   omega
theorem delT_hds (cmp : κ → κ → Int) (k : κ) : ∀ t : HT κ ν, (hds (delT cmp k t).1 ++ (delT cmp k t).2).Perm (hds t)
 | .leaf => by simp [delT, hds]
 | .node h tk tv l r hi => by
   refine perm_of fun x => ?_
   unfold delT
   split
   · have i := List.perm_iff_count.1 (delT_hds cmp k l) x
     have b := List.perm_iff_count.1 (balT_hds h tk tv (delT cmp k l).1 r) x
     simp only [List.count_append, hds] at i b ⊢
     omega
   · split
     · have i := List.perm_iff_count.1 (delT_hds cmp k r) x
       have b := List.perm_iff_count.1 (balT_hds h tk tv l (delT cmp k r).1) x
       simp only [List.count_append, hds] at i b ⊢
       omega
     · split
       · simp only [List.count_append, hds, List.count_nil]
         omega
       · simp only [List.count_append, hds, List.count_nil]
         omega
       · rename_i rh rk rv rl rr rhi hne3
         have i := List.perm_iff_count.1 (leastT_hds rl rh rk rv rr) x
         have b := List.perm_iff_count.1 (balT_hds (leastT rh rk rv rr rl).1.1 (leastT rh rk rv rr rl).1.2.1 (leastT rh rk rv rr rl).1.2.2 l (leastT rh rk rv rr rl).2.1) x
         simp only [List.count_append, hds] at i b ⊢
         omega
end
/-! ### slots that are used again, with no program in sight -/
theorem hd_ext {a b : Hd} (h1 : a.s = b.s) (h2 : a.g = b.g) : a = b := by
 cases a
 cases b
 simp_all
section
variable {κ ν : Type}
/-- What an arena's slots and free ones are like; G: no generation is greater. -/
structure WfA (A : List (SlotD κ ν)) (F : List Int) (G : Nat) : Prop where
 free : ∀ x ∈ F, ∃ j : Nat, x = j + 1 ∧ ∃ s, A[j]? = some s ∧ s.used = false
 nodup : F.Nodup
 gen : ∀ s ∈ A, 0 ≤ s.gen ∧ s.gen ≤ G
def roomA (most : Int) (A : List (SlotD κ ν)) (F : List Int) : Int := most - A.length + F.length
/-- A slot behind a Put. -/
def usedS (g : Int) (x : SlotD κ ν) : SlotD κ ν := { x with gen := g, used := true }
/-- What Put comes to. -/
structure PutA (most : Int) (A : List (SlotD κ ν)) (F : List Int) (x : SlotD κ ν) (A' : List (SlotD κ ν)) (F' : List Int) (h : Hd) : Prop where
 got : InA A' h (usedS h.g x)
 le : ALe A A'
 only : ∀ h' s, InA A' h' s → InA A h' s ∨ (h' = h ∧ s = usedS h.g x)
 new : ∀ s, ¬ InA A h s
 room : roomA most A' F' = roomA most A F - 1
 pos : 1 ≤ h.s
 len : roomA most A F ≠ 0 → (A.length : Int) ≤ most → (A'.length : Int) ≤ most
theorem wfa_nil : WfA ([] : List (SlotD κ ν)) [] 0 := ⟨fun x h => (by cases h), List.nodup_nil, fun s h => (by cases h)⟩
theorem wfa_more {A : List (SlotD κ ν)} {F : List Int} {G G' : Nat} (h : WfA A F G) (hG : G ≤ G') : WfA A F G' := ⟨h.free, h.nodup, fun s hs => ⟨(h.gen s hs).1, by have := (h.gen s hs).2; omega⟩⟩
theorem put_push {A : List (SlotD κ ν)} {G : Nat} (most : Int) (h : WfA A [] G) (x : SlotD κ ν) : WfA (A ++ [usedS 1 x]) [] (G + 1) ∧ PutA most A [] x (A ++ [usedS 1 x]) [] ⟨A.length + 1, 1⟩ := by
 refine ⟨⟨fun y hy => (by cases hy), List.nodup_nil, fun s hs => ?_⟩, ⟨⟨A.length, rfl, by simp, rfl, rfl⟩, ?_, ?_, ?_, ?_, ?_, fun h1 h2 => by unfold roomA at h1; simp at h1 ⊢; omega⟩⟩
 · rcases List.mem_append.1 hs with hs | hs
   · have := h.gen s hs; omega
   · obtain rfl := List.mem_singleton.1 hs
     show (0 : Int) ≤ 1 ∧ (1 : Int) ≤ _
     omega
 · rintro h' s ⟨i, h1, h2, h3, h4⟩
   exact ⟨i, h1, by rw [List.getElem?_append_left (List.getElem?_eq_some_iff.1 h2).1]; exact h2, h3, h4⟩
 · rintro h' s ⟨i, h1, h2, h3, h4⟩
   rcases Nat.lt_or_ge i A.length with hi | hi
   · rw [List.getElem?_append_left hi] at h2
     exact .inl ⟨i, h1, h2, h3, h4⟩
   · rw [List.getElem?_append_right hi] at h2
     have hi0 : i - A.length = 0 := by
       have := (List.getElem?_eq_some_iff.1 h2).1
       simp at this
       omega
     rw [hi0] at h2
     simp at h2
     subst h2
     obtain rfl : i = A.length := by omega
     refine .inr ⟨?_, rfl⟩
     have h4 : (1 : Int) = h'.g := h4
     cases h'
     simp only [Hd.mk.injEq]
     exact ⟨h1, h4.symm⟩
 · rintro s ⟨i, h1, h2, _⟩
   have := (List.getElem?_eq_some_iff.1 h2).1
   have h1 : ((A.length : Int) + 1) = i + 1 := h1
   omega
 · unfold roomA
   simp
   omega
 · show (1 : Int) ≤ (A.length : Int) + 1
   omega
theorem put_again {A : List (SlotD κ ν)} {F : List Int} {j : Nat} {s : SlotD κ ν} {G : Nat} (most : Int) (h : WfA A (F ++ [(j + 1 : Int)]) G) (hs : A[j]? = some s) (x : SlotD κ ν) : WfA (A.set j (usedS (s.gen + 1) x)) F (G + 1) ∧ PutA most A (F ++ [(j + 1 : Int)]) x (A.set j (usedS (s.gen + 1) x)) F ⟨j + 1, s.gen + 1⟩ := by
 have hj := (List.getElem?_eq_some_iff.1 hs).1
 have hun : s.used = false := by
   obtain ⟨j', e, s', h1, h2⟩ := h.free (j + 1) (List.mem_append_right _ (List.mem_singleton.2 rfl))
   obtain rfl : j = j' := by omega
   rw [hs] at h1
   cases h1
   exact h2
 have hnd := List.nodup_append.1 h.nodup
 refine ⟨⟨fun y hy => ?_, hnd.1, fun z hz => ?_⟩, ⟨⟨j, rfl, by simp [hj], rfl, rfl⟩, ?_, ?_, ?_, ?_, ?_, fun _ h2 => by simpa using h2⟩⟩
 · obtain ⟨i, e, s', h1, h2⟩ := h.free y (List.mem_append_left _ hy)
   have hne : i ≠ j := fun e2 => hnd.2.2 y hy (j + 1) (List.mem_singleton.2 rfl) (by rw [e, e2])
   exact ⟨i, e, s', by rw [List.getElem?_set_ne (Ne.symm hne)]; exact h1, h2⟩
 · rcases List.mem_or_eq_of_mem_set hz with hz | rfl
   · have := h.gen z hz; omega
   · have := h.gen s (List.mem_of_getElem? hs)
     show 0 ≤ s.gen + 1 ∧ s.gen + 1 ≤ _
     omega
 · rintro h' z ⟨i, h1, h2, h3, h4⟩
   have hne : i ≠ j := fun e => by subst e; rw [hs] at h2; cases h2; rw [hun] at h3; cases h3
   exact ⟨i, h1, by rw [List.getElem?_set_ne (Ne.symm hne)]; exact h2, h3, h4⟩
 · rintro h' z ⟨i, h1, h2, h3, h4⟩
   by_cases e : i = j
   · subst e
     rw [List.getElem?_set_self hj] at h2
     cases h2
     refine .inr ⟨?_, rfl⟩
     have h4 : s.gen + 1 = h'.g := h4
     cases h'
     simp only [Hd.mk.injEq]
     exact ⟨h1, h4.symm⟩
   · rw [List.getElem?_set_ne (Ne.symm e)] at h2
     exact .inl ⟨i, h1, h2, h3, h4⟩
 · rintro z ⟨i, h1, h2, h3, _⟩
   have h1 : ((j : Int) + 1) = i + 1 := h1
   obtain rfl : i = j := by omega
   rw [hs] at h2
   cases h2
   rw [hun] at h3
   cases h3
 · unfold roomA
   simp
   omega
 · show (1 : Int) ≤ (j : Int) + 1
   omega
/-- What Free comes to. -/
structure FreeA (most : Int) (A : List (SlotD κ ν)) (F : List Int) (h : Hd) (A' : List (SlotD κ ν)) (F' : List Int) : Prop where
 iff : ∀ h' s, InA A' h' s ↔ InA A h' s ∧ h' ≠ h
 room : roomA most A' F' = roomA most A F + 1
theorem free_slot {A : List (SlotD κ ν)} {F : List Int} {j : Nat} {s z : SlotD κ ν} {G : Nat} (most : Int) (hw : WfA A F G) {h : Hd} (hs : A[j]? = some s) (h1 : h.s = j + 1) (h3 : s.used = true) (h4 : s.gen = h.g) (hz : z.gen = s.gen) (hu : z.used = false) : WfA (A.set j z) (F ++ [h.s]) G ∧ FreeA most A F h (A.set j z) (F ++ [h.s]) := by
 have hj := (List.getElem?_eq_some_iff.1 hs).1
 refine ⟨⟨fun y hy => ?_, ?_, fun y hy => ?_⟩, ⟨fun h' y => ?_, ?_⟩⟩
 · rcases List.mem_append.1 hy with hy | hy
   · obtain ⟨i, e, s', g1, g2⟩ := hw.free y hy
     have hne : i ≠ j := fun e2 => by subst e2; rw [hs] at g1; cases g1; rw [h3] at g2; cases g2
     exact ⟨i, e, s', by rw [List.getElem?_set_ne (Ne.symm hne)]; exact g1, g2⟩
   · obtain rfl := List.mem_singleton.1 hy
     exact ⟨j, h1, z, by rw [List.getElem?_set_self hj], hu⟩
 · refine List.nodup_append.2 ⟨hw.nodup, by simp, fun a ha b hb => ?_⟩
   obtain rfl := List.mem_singleton.1 hb
   rintro rfl
   obtain ⟨i, e, s', g1, g2⟩ := hw.free _ ha
   obtain rfl : i = j := by omega
   rw [hs] at g1
   cases g1
   rw [h3] at g2
   cases g2
 · rcases List.mem_or_eq_of_mem_set hy with hy | rfl
   · exact hw.gen y hy
   · rw [hz]
     exact hw.gen s (List.mem_of_getElem? hs)
 · constructor
   · rintro ⟨i, g1, g2, g3, g4⟩
     by_cases e : i = j
     · subst e
       rw [List.getElem?_set_self hj] at g2
       cases g2
       rw [hu] at g3
       cases g3
     · rw [List.getElem?_set_ne (Ne.symm e)] at g2
       refine ⟨⟨i, g1, g2, g3, g4⟩, fun e2 => e ?_⟩
       rw [e2, h1] at g1
       omega
   · rintro ⟨⟨i, g1, g2, g3, g4⟩, hne⟩
     have e : i ≠ j := fun e => by
       subst e
       rw [hs] at g2
       cases g2
       exact hne (hd_ext (g1.trans h1.symm) (g4.symm.trans h4))
     exact ⟨i, g1, by rw [List.getElem?_set_ne (Ne.symm e)]; exact g2, g3, g4⟩
 · unfold roomA
   simp
   omega
end
open Go Go.RowKit in
/-- Cells of a block of the call's own, one behind the other. -/
theorem Sat.putB {b : Nat} {e : TypeId} {l : List HProp} : ∀ (us : List Value) {w : World} {c : Array Value} (j : Nat), Sat w (own b (.cells c e (0, 0)) :: l) → ∃ c', Sat (World.putCells w b j us) (own b (.cells c' e (0, 0)) :: l)
 | [], _, c, _, hs => ⟨c, hs⟩
 | u :: us, w, c, j, hs => Sat.putB us (j + 1) (hs.set j u)
open Go Go.RowKit in
theorem Sat.putX {b : Nat} {e : TypeId} {l : List HProp} : ∀ (us : List Value) {w : World} (pre post : List Value), post.length = us.length → Sat w (own b (.cells (pre ++ post).toArray e (0, 0)) :: l) → Sat (World.putCells w b pre.length us) (own b (.cells (pre ++ us).toArray e (0, 0)) :: l)
 | [], w, pre, post, hl, hs => by
   obtain rfl : post = [] := List.eq_nil_of_length_eq_zero hl
   exact hs
 | u :: us, w, pre, post, hl, hs => by
   cases post with
   | nil => simp at hl
   | cons p post =>
     have h1 := hs.set pre.length u
     have e1 : (pre ++ p :: post).toArray.setIfInBounds pre.length u = ((pre ++ [u]) ++ post).toArray := by
       apply Array.toList_inj.1
       simp
     rw [e1] at h1
     have h2 := Sat.putX us (pre ++ [u]) post (by simpa using hl) h1
     rw [List.length_append, List.append_assoc] at h2
     exact h2
open Go Go.RowKit in
/-- All cells of a block of the call's own. -/
theorem Sat.putAll {b : Nat} {e : TypeId} {l : List HProp} {w : World} {c : Array Value} (us : List Value) (hl : c.size = us.length) (hs : Sat w (own b (.cells c e (0, 0)) :: l)) : Sat (World.putCells w b 0 us) (own b (.cells us.toArray e (0, 0)) :: l) := by
 have := Sat.putX us [] c.toList (by simpa using hl) (by simpa using hs)
 simpa using this
/-! ### what both maps have -/
theorem InA.slot {κ ν : Type} {A : List (SlotD κ ν)} {h : Hd} {s : SlotD κ ν} (hi : InA A h s) : ∃ i : Nat, h.s = i + 1 ∧ A[i]? = some s ∧ s.used = true ∧ s.gen = h.g := hi
def fH (h : Hd) : List Value := [.int .i64 h.s, .int .i64 h.g]
theorem len_fH (h : Hd) : (fH h).length = 2 := rfl
def orH (P Q : HProp) : HProp := fun h => P h ∨ Q h
theorem Sat.orE {w : World} {l : List HProp} {P Q : HProp} (hs : Sat w (orH P Q :: l)) : Sat w (P :: l) ∨ Sat w (Q :: l) := by
 obtain ⟨h, ⟨h1, h2, hd, he, a, c⟩, hw⟩ := hs
 rcases a with a | a
 · exact .inl ⟨h, ⟨h1, h2, hd, he, a, c⟩, hw⟩
 · exact .inr ⟨h, ⟨h1, h2, hd, he, a, c⟩, hw⟩
theorem Sat.orL {w : World} {l : List HProp} {P Q : HProp} (hs : Sat w (P :: l)) : Sat w (orH P Q :: l) := hs.head fun _ h => .inl h
theorem Sat.orR {w : World} {l : List HProp} {P Q : HProp} (hs : Sat w (Q :: l)) : Sat w (orH P Q :: l) := hs.head fun _ h => .inr h
/-- A spot. -/
structure SpD where
 inn : Bool
 up : Int
 nm : ByteArray
end Go.Proofs.YtddglbjhhnipgaaGreatDoor

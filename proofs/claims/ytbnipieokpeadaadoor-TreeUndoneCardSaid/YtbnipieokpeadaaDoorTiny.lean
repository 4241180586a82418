import Derived.Test.YtbnipieokpeadaaDoorAwake
namespace Go.Proofs.YtbnipieokpeadaaDoor
open Go Go.RowKit
set_option linter.unusedVariables false
set_option linter.unusedSimpArgs false

structure TinyD where
  n : Int
  r : Int
  node : Int
  up : Int
  name : Int
def fT (t : TinyD) : List Value := [.int .u8 t.n, .int .u8 t.r, .int .u8 t.node, .int .u8 t.up, .int .u8 t.name]
theorem len_fT (t : TinyD) : (fT t).length = 5 := rfl
structure TinyOk (t : TinyD) : Prop where
  n0 : 0 ≤ t.n
  n1 : t.n < 256
  r0 : 0 ≤ t.r
  r1 : t.r < 256
  d0 : 0 ≤ t.node
  d1 : t.node < 256
  u0 : 0 ≤ t.up
  u1 : t.up < 256
  m0 : 0 ≤ t.name
  m1 : t.name < 256
def upOf (u : Int) : Int := if 2 ≤ u % 10 then 254 + u % 10 else u % 10
def ofT (t : TinyD) : OpD := ⟨1 + t.n % 40, t.r % 4, 256 + t.node % 8, upOf t.up, letter (t.name % 8).toNat⟩
theorem small_ofT {t : TinyD} (h : TinyOk t) : Small (ofT t) := by
  obtain ⟨n0, n1, r0, r1, d0, d1, u0, u1, m0, m1⟩ := h
  refine ⟨?_, ?_, ?_, ?_, ?_, ?_, ?_, (t.name % 8).toNat, by omega, rfl⟩
  all_goals (simp only [ofT, upOf]; first | omega | (split <;> omega))

set_option maxRecDepth 100000 in
theorem short_letter {w : World} {x : Int} (h0 : 0 ≤ x) (h1 : x < 256) : Calls Tryd.prog 38 #[.int .u8 x] w fun e w' => e = .returned (.string (letter (x % 8).toNat)) ∧ w = w' := by
  obtain ⟨k, hk⟩ : ∃ k, x % 8 = k := ⟨_, rfl⟩
  rw [hk]
  have h : k = 0 ∨ k = 1 ∨ k = 2 ∨ k = 3 ∨ k = 4 ∨ k = 5 ∨ k = 6 ∨ k = 7 := by omega
  rcases h with rfl | rfl | rfl | rfl | rfl | rfl | rfl | rfl
  all_goals
    go_enter Tryd.func38, Tryd.ntmps38
    go_wp2_with fail
    go_ret
    exact ⟨by kernel_rfl, rfl⟩

set_option maxRecDepth 100000 in
theorem small_stamp {w : World} {l : List HProp} {a b : Int} (hs : Sat w l) (h0 : 0 ≤ a) (h1 : a < 256) (h2 : 0 ≤ b) (h3 : b < 256) : Calls Tryd.prog 37 #[.int .u8 a, .int .u8 b] w fun e w' => e = .returned (.agg #[.int .i64 (1 + a % 40), .int .i64 (b % 4)]) ∧ Sat w' l ∧ Kp w w' := by
  go_enter Tryd.func37, Tryd.ntmps37
  go_wp2_with fail
  refine bodyPost_ret (v := .agg #[.int .i64 (1 + a % 40), .int .i64 (b % 4)]) (by simp [results, Tryd.results37, go_sem]) rfl ⟨rfl, hs.alloc' _, (Kp.refl w).alloc _⟩

set_option maxRecDepth 100000 in
set_option maxHeartbeats 2000000 in
theorem tiny_of {w : World} {l : List HProp} {t : TinyD} (hs : Sat w l) (ht : TinyOk t) : Calls Tryd.prog 14 #[.agg #[.int .u8 t.n, .int .u8 t.r, .int .u8 t.node, .int .u8 t.up, .int .u8 t.name]] w fun e w' => e = .returned (aggO (ofT t)) ∧ Sat w' l ∧ Kp w w' := by
  obtain ⟨n, r, node, up, name⟩ := t
  obtain ⟨n0, n1, r0, r1, d0, d1, u0, u1, m0, m1⟩ := ht
  dsimp only at n0 n1 r0 r1 d0 d1 u0 u1 m0 m1
  have hB := (hs.alloc (.cells #[.int .u8 n, .int .u8 r, .int .u8 node, .int .u8 up, .int .u8 name] 24)).alloc (.cells #[.int .i64 0, .int .i64 0, .int .i64 0, .int .i64 0, .string ⟨#[]⟩] 33)
  have kB := ((Kp.refl w).alloc (.cells #[.int .u8 n, .int .u8 r, .int .u8 node, .int .u8 up, .int .u8 name] 24)).alloc (.cells #[.int .i64 0, .int .i64 0, .int .i64 0, .int .i64 0, .string ⟨#[]⟩] 33)
  simp only [World.size_alloc] at hB
  go_enter Tryd.func14, Tryd.ntmps14
  go_upto_region 1 with (fail)
  generalize World.alloc _ _ = w1 at hB kB ⊢
  have hne := hB.ne
  generalize w.heap.size + 1 = C at hB hne ⊢
  generalize w.heap.size = B at hB hne ⊢
  have b0 := (hB.pull 1).cell 0
  have b1 := (hB.pull 1).cell 1
  have b2 := (hB.pull 1).cell 2
  have b3 := (hB.pull 1).cell 3
  have b4 := (hB.pull 1).cell 4
  simp at b0 b1 b2 b3 b4
  by_cases hu : 2 ≤ up % 10
  · have hup : upOf up = 254 + up % 10 := by unfold upOf; rw [if_pos hu]
    go_upto_region 4 with (fail)
    have t1 : node.tmod 8 = node % 8 := Int.tmod_eq_emod_of_nonneg d0
    have w1' : IntKind.i64.wrap (node % 8) = node % 8 := IntWalk.i64_in _ (by omega)
    have w2' : IntKind.i64.wrap (256 + node % 8) = 256 + node % 8 := IntWalk.i64_in _ (by omega)
    go_region_held3 (fun w' => w'.cell? ⟨B, 0, none⟩ = some (.int .u8 n) ∧ w'.cell? ⟨B, 1, none⟩ = some (.int .u8 r) ∧ w'.cell? ⟨B, 2, none⟩ = some (.int .u8 node) ∧ w'.cell? ⟨B, 3, none⟩ = some (.int .u8 up) ∧ w'.cell? ⟨B, 4, none⟩ = some (.int .u8 name)) (first | go_keep | exact ⟨b0, b1, b2, b3, b4⟩ | exact ⟨(h3.pull 1).cell 0, (h3.pull 1).cell 1, (h3.pull 1).cell 2, (h3.pull 1).cell 3, (h3.pull 1).cell 4⟩)
      (first | (go_at_call 37; refine (small_stamp (hB.drewN 1) n0 n1 r0 r1).mono ?_; rintro e w3 ⟨rfl, h3, k3⟩; have c0 := h3.cell 0; have c1 := h3.cell 1; have c2 := h3.cell 2; have c3 := h3.cell 3; have c4 := h3.cell 4; have g0 := h3.free 0; have g1 := h3.free 1; have g2 := h3.free 2; have g3 := h3.free 3; have g4 := h3.free 4; simp at c0 c1 c2 c3 c4) | (go_at_call 38; refine (short_letter m0 m1).mono ?_; rintro e w4 ⟨rfl, rfl⟩))
    have h5 := ((((h3.set 0 (.int .i64 (1 + n % 40))).set 1 (.int .i64 (r % 4))).set 2 (.int .i64 (256 + node % 8))).set 3 (.int .i64 (254 + up % 10))).set 4 (.string (letter (name % 8).toNat))
    have k5 := (((((kB.drewN 1).trans k3).setCell ⟨C, 0, none⟩ (.int .i64 (1 + n % 40))).setCell ⟨C, 1, none⟩ (.int .i64 (r % 4))).setCell ⟨C, 2, none⟩ (.int .i64 (256 + node % 8))).setCell ⟨C, 3, none⟩ (.int .i64 (254 + up % 10)) |>.setCell ⟨C, 4, none⟩ (.string (letter (name % 8).toNat))
    have e0 := h5.cell 0
    have e1 := h5.cell 1
    have e2 := h5.cell 2
    have e3 := h5.cell 3
    have e4 := h5.cell 4
    simp at e0 e1 e2 e3 e4
    go_wp2_with fail
    exact bodyPost_ret (v := .agg #[.int .i64 (1 + n % 40), .int .i64 (r % 4), .int .i64 (256 + node % 8), .int .i64 (254 + up % 10), .string (letter (name % 8).toNat)]) (by simp [results, Tryd.results14, go_sem, e0, e1, e2, e3, e4]) rfl ⟨by simp only [aggO, ofT, hup], h5.tail.tail, k5⟩
  · have hup : upOf up = up % 10 := by unfold upOf; rw [if_neg hu]
    have hu' : up % 10 < 2 := by omega
    clear hu
    go_upto_region 4 with (fail)
    have t1 : node.tmod 8 = node % 8 := Int.tmod_eq_emod_of_nonneg d0
    have w1' : IntKind.i64.wrap (node % 8) = node % 8 := IntWalk.i64_in _ (by omega)
    have w2' : IntKind.i64.wrap (256 + node % 8) = 256 + node % 8 := IntWalk.i64_in _ (by omega)
    go_region_held3 (fun w' => w'.cell? ⟨B, 0, none⟩ = some (.int .u8 n) ∧ w'.cell? ⟨B, 1, none⟩ = some (.int .u8 r) ∧ w'.cell? ⟨B, 2, none⟩ = some (.int .u8 node) ∧ w'.cell? ⟨B, 3, none⟩ = some (.int .u8 up) ∧ w'.cell? ⟨B, 4, none⟩ = some (.int .u8 name)) (first | go_keep | exact ⟨b0, b1, b2, b3, b4⟩ | exact ⟨(h3.pull 1).cell 0, (h3.pull 1).cell 1, (h3.pull 1).cell 2, (h3.pull 1).cell 3, (h3.pull 1).cell 4⟩)
      (first | (go_at_call 37; refine (small_stamp (hB.drewN 1) n0 n1 r0 r1).mono ?_; rintro e w3 ⟨rfl, h3, k3⟩; have c0 := h3.cell 0; have c1 := h3.cell 1; have c2 := h3.cell 2; have c3 := h3.cell 3; have c4 := h3.cell 4; have g0 := h3.free 0; have g1 := h3.free 1; have g2 := h3.free 2; have g3 := h3.free 3; have g4 := h3.free 4; simp at c0 c1 c2 c3 c4) | (go_at_call 38; refine (short_letter m0 m1).mono ?_; rintro e w4 ⟨rfl, rfl⟩))
    have h5 := ((((h3.set 0 (.int .i64 (1 + n % 40))).set 1 (.int .i64 (r % 4))).set 2 (.int .i64 (256 + node % 8))).set 3 (.int .i64 (up % 10))).set 4 (.string (letter (name % 8).toNat))
    have k5 := (((((kB.drewN 1).trans k3).setCell ⟨C, 0, none⟩ (.int .i64 (1 + n % 40))).setCell ⟨C, 1, none⟩ (.int .i64 (r % 4))).setCell ⟨C, 2, none⟩ (.int .i64 (256 + node % 8))).setCell ⟨C, 3, none⟩ (.int .i64 (up % 10)) |>.setCell ⟨C, 4, none⟩ (.string (letter (name % 8).toNat))
    have e0 := h5.cell 0
    have e1 := h5.cell 1
    have e2 := h5.cell 2
    have e3 := h5.cell 3
    have e4 := h5.cell 4
    simp at e0 e1 e2 e3 e4
    go_wp2_with fail
    exact bodyPost_ret (v := .agg #[.int .i64 (1 + n % 40), .int .i64 (r % 4), .int .i64 (256 + node % 8), .int .i64 (up % 10), .string (letter (name % 8).toNat)]) (by simp [results, Tryd.results14, go_sem, e0, e1, e2, e3, e4]) rfl ⟨by simp only [aggO, ofT, hup], h5.tail.tail, k5⟩

end Go.Proofs.YtbnipieokpeadaaDoor

import Derived.Test.YtbnipieokpeadaaDoorGK
import Derived.Test.YtbnipieokpeadaaDoorGA
import Derived.Test.YtbnipieokpeadaaDoorGL
namespace Go.Proofs.YtbnipieokpeadaaDoor
open Go Go.RowKit
set_option linter.unusedVariables false
set_option linter.unusedSimpArgs false

structure TinyD where
  n : Int
  r : Int
  node : Int
  up : Int
  name : Int
def fT (t : TinyD) : List Value := [.int .u8 t.n, .int .u8 t.r, .int .u8 t.node, .int .u8 t.up, .int .u8 t.name]
theorem len_fT (t : TinyD) : (fT t).length = 5 := rfl
structure TinyOk (t : TinyD) : Prop where
  n0 : 0 ≤ t.n
  n1 : t.n < 256
  r0 : 0 ≤ t.r
  r1 : t.r < 256
  d0 : 0 ≤ t.node
  d1 : t.node < 256
  u0 : 0 ≤ t.up
  u1 : t.up < 256
  m0 : 0 ≤ t.name
  m1 : t.name < 256
def upOf (u : Int) : Int := if 2 ≤ u % 10 then 254 + u % 10 else u % 10
def ofT (t : TinyD) : OpD := ⟨1 + t.n % 40, t.r % 4, 256 + t.node % 8, upOf t.up, letter (t.name % 8).toNat⟩
theorem small_ofT {t : TinyD} (h : TinyOk t) : Small (ofT t) := by
  obtain ⟨n0, n1, r0, r1, d0, d1, u0, u1, m0, m1⟩ := h
  refine ⟨?_, ?_, ?_, ?_, ?_, ?_, ?_, (t.name % 8).toNat, by omega, rfl⟩
  all_goals (simp only [ofT, upOf]; first | omega | (split <;> omega))

set_option maxRecDepth 100000 in
theorem short_letter {w : World} {x : Int} (h0 : 0 ≤ x) (h1 : x < 256) : Calls Tryd.prog 38 #[.int .u8 x] w fun e w' => e = .returned (.string (letter (x % 8).toNat)) ∧ w = w' := by
  obtain ⟨k, hk⟩ : ∃ k, x % 8 = k := ⟨_, rfl⟩
  rw [hk]
  have h : k = 0 ∨ k = 1 ∨ k = 2 ∨ k = 3 ∨ k = 4 ∨ k = 5 ∨ k = 6 ∨ k = 7 := by omega
  rcases h with rfl | rfl | rfl | rfl | rfl | rfl | rfl | rfl
  all_goals
    go_enter Tryd.func38, Tryd.ntmps38
    go_wp2_with fail
    go_ret
    exact ⟨by kernel_rfl, rfl⟩

set_option maxRecDepth 100000 in
theorem small_stamp {w : World} {l : List HProp} {a b : Int} (hs : Sat w l) (h0 : 0 ≤ a) (h1 : a < 256) (h2 : 0 ≤ b) (h3 : b < 256) : Calls Tryd.prog 37 #[.int .u8 a, .int .u8 b] w fun e w' => e = .returned (.agg #[.int .i64 (1 + a % 40), .int .i64 (b % 4)]) ∧ Sat w' l ∧ Kp w w' := by
  go_enter Tryd.func37, Tryd.ntmps37
  go_wp2_with fail
  refine bodyPost_ret (v := .agg #[.int .i64 (1 + a % 40), .int .i64 (b % 4)]) (by simp [results, Tryd.results37, go_sem]) rfl ⟨rfl, hs.alloc' _, (Kp.refl w).alloc _⟩

set_option maxRecDepth 100000 in
set_option maxHeartbeats 2000000 in
theorem tiny_of {w : World} {l : List HProp} {t : TinyD} (hs : Sat w l) (ht : TinyOk t) : Calls Tryd.prog 14 #[.agg #[.int .u8 t.n, .int .u8 t.r, .int .u8 t.node, .int .u8 t.up, .int .u8 t.name]] w fun e w' => e = .returned (aggO (ofT t)) ∧ Sat w' l ∧ Kp w w' := by
  obtain ⟨n, r, node, up, name⟩ := t
  obtain ⟨n0, n1, r0, r1, d0, d1, u0, u1, m0, m1⟩ := ht
  dsimp only at n0 n1 r0 r1 d0 d1 u0 u1 m0 m1
  have hB := (hs.alloc (.cells #[.int .u8 n, .int .u8 r, .int .u8 node, .int .u8 up, .int .u8 name] 24)).alloc (.cells #[.int .i64 0, .int .i64 0, .int .i64 0, .int .i64 0, .string ⟨#[]⟩] 33)
  have kB := ((Kp.refl w).alloc (.cells #[.int .u8 n, .int .u8 r, .int .u8 node, .int .u8 up, .int .u8 name] 24)).alloc (.cells #[.int .i64 0, .int .i64 0, .int .i64 0, .int .i64 0, .string ⟨#[]⟩] 33)
  simp only [World.size_alloc] at hB
  go_enter Tryd.func14, Tryd.ntmps14
  go_upto_region 1 with (fail)
  generalize World.alloc _ _ = w1 at hB kB ⊢
  have hne := hB.ne
  generalize w.heap.size + 1 = C at hB hne ⊢
  generalize w.heap.size = B at hB hne ⊢
  have b0 := (hB.pull 1).cell 0
  have b1 := (hB.pull 1).cell 1
  have b2 := (hB.pull 1).cell 2
  have b3 := (hB.pull 1).cell 3
  have b4 := (hB.pull 1).cell 4
  simp at b0 b1 b2 b3 b4
  by_cases hu : 2 ≤ up % 10
  · have hup : upOf up = 254 + up % 10 := by unfold upOf; rw [if_pos hu]
    go_upto_region 4 with (fail)
    have t1 : node.tmod 8 = node % 8 := Int.tmod_eq_emod_of_nonneg d0
    have w1' : IntKind.i64.wrap (node % 8) = node % 8 := IntWalk.i64_in _ (by omega)
    have w2' : IntKind.i64.wrap (256 + node % 8) = 256 + node % 8 := IntWalk.i64_in _ (by omega)
    go_region_held3 (fun w' => w'.cell? ⟨B, 0, none⟩ = some (.int .u8 n) ∧ w'.cell? ⟨B, 1, none⟩ = some (.int .u8 r) ∧ w'.cell? ⟨B, 2, none⟩ = some (.int .u8 node) ∧ w'.cell? ⟨B, 3, none⟩ = some (.int .u8 up) ∧ w'.cell? ⟨B, 4, none⟩ = some (.int .u8 name)) (first | go_keep | exact ⟨b0, b1, b2, b3, b4⟩ | exact ⟨(h3.pull 1).cell 0, (h3.pull 1).cell 1, (h3.pull 1).cell 2, (h3.pull 1).cell 3, (h3.pull 1).cell 4⟩)
      (first | (go_at_call 37; refine (small_stamp (hB.drewN 1) n0 n1 r0 r1).mono ?_; rintro e w3 ⟨rfl, h3, k3⟩; have c0 := h3.cell 0; have c1 := h3.cell 1; have c2 := h3.cell 2; have c3 := h3.cell 3; have c4 := h3.cell 4; have g0 := h3.free 0; have g1 := h3.free 1; have g2 := h3.free 2; have g3 := h3.free 3; have g4 := h3.free 4; simp at c0 c1 c2 c3 c4) | (go_at_call 38; refine (short_letter m0 m1).mono ?_; rintro e w4 ⟨rfl, rfl⟩))
    have h5 := ((((h3.set 0 (.int .i64 (1 + n % 40))).set 1 (.int .i64 (r % 4))).set 2 (.int .i64 (256 + node % 8))).set 3 (.int .i64 (254 + up % 10))).set 4 (.string (letter (name % 8).toNat))
    have k5 := (((((kB.drewN 1).trans k3).setCell ⟨C, 0, none⟩ (.int .i64 (1 + n % 40))).setCell ⟨C, 1, none⟩ (.int .i64 (r % 4))).setCell ⟨C, 2, none⟩ (.int .i64 (256 + node % 8))).setCell ⟨C, 3, none⟩ (.int .i64 (254 + up % 10)) |>.setCell ⟨C, 4, none⟩ (.string (letter (name % 8).toNat))
    have e0 := h5.cell 0
    have e1 := h5.cell 1
    have e2 := h5.cell 2
    have e3 := h5.cell 3
    have e4 := h5.cell 4
    simp at e0 e1 e2 e3 e4
    go_wp2_with fail
    exact bodyPost_ret (v := .agg #[.int .i64 (1 + n % 40), .int .i64 (r % 4), .int .i64 (256 + node % 8), .int .i64 (254 + up % 10), .string (letter (name % 8).toNat)]) (by simp [results, Tryd.results14, go_sem, e0, e1, e2, e3, e4]) rfl ⟨by simp only [aggO, ofT, hup], h5.tail.tail, k5⟩
  · have hup : upOf up = up % 10 := by unfold upOf; rw [if_neg hu]
    have hu' : up % 10 < 2 := by omega
    clear hu
    go_upto_region 4 with (fail)
    have t1 : node.tmod 8 = node % 8 := Int.tmod_eq_emod_of_nonneg d0
    have w1' : IntKind.i64.wrap (node % 8) = node % 8 := IntWalk.i64_in _ (by omega)
    have w2' : IntKind.i64.wrap (256 + node % 8) = 256 + node % 8 := IntWalk.i64_in _ (by omega)
    go_region_held3 (fun w' => w'.cell? ⟨B, 0, none⟩ = some (.int .u8 n) ∧ w'.cell? ⟨B, 1, none⟩ = some (.int .u8 r) ∧ w'.cell? ⟨B, 2, none⟩ = some (.int .u8 node) ∧ w'.cell? ⟨B, 3, none⟩ = some (.int .u8 up) ∧ w'.cell? ⟨B, 4, none⟩ = some (.int .u8 name)) (first | go_keep | exact ⟨b0, b1, b2, b3, b4⟩ | exact ⟨(h3.pull 1).cell 0, (h3.pull 1).cell 1, (h3.pull 1).cell 2, (h3.pull 1).cell 3, (h3.pull 1).cell 4⟩)
      (first | (go_at_call 37; refine (small_stamp (hB.drewN 1) n0 n1 r0 r1).mono ?_; rintro e w3 ⟨rfl, h3, k3⟩; have c0 := h3.cell 0; have c1 := h3.cell 1; have c2 := h3.cell 2; have c3 := h3.cell 3; have c4 := h3.cell 4; have g0 := h3.free 0; have g1 := h3.free 1; have g2 := h3.free 2; have g3 := h3.free 3; have g4 := h3.free 4; simp at c0 c1 c2 c3 c4) | (go_at_call 38; refine (short_letter m0 m1).mono ?_; rintro e w4 ⟨rfl, rfl⟩))
    have h5 := ((((h3.set 0 (.int .i64 (1 + n % 40))).set 1 (.int .i64 (r % 4))).set 2 (.int .i64 (256 + node % 8))).set 3 (.int .i64 (up % 10))).set 4 (.string (letter (name % 8).toNat))
    have k5 := (((((kB.drewN 1).trans k3).setCell ⟨C, 0, none⟩ (.int .i64 (1 + n % 40))).setCell ⟨C, 1, none⟩ (.int .i64 (r % 4))).setCell ⟨C, 2, none⟩ (.int .i64 (256 + node % 8))).setCell ⟨C, 3, none⟩ (.int .i64 (up % 10)) |>.setCell ⟨C, 4, none⟩ (.string (letter (name % 8).toNat))
    have e0 := h5.cell 0
    have e1 := h5.cell 1
    have e2 := h5.cell 2
    have e3 := h5.cell 3
    have e4 := h5.cell 4
    simp at e0 e1 e2 e3 e4
    go_wp2_with fail
    exact bodyPost_ret (v := .agg #[.int .i64 (1 + n % 40), .int .i64 (r % 4), .int .i64 (256 + node % 8), .int .i64 (up % 10), .string (letter (name % 8).toNat)]) (by simp [results, Tryd.results14, go_sem, e0, e1, e2, e3, e4]) rfl ⟨by simp only [aggO, ofT, hup], h5.tail.tail, k5⟩

end Go.Proofs.YtbnipieokpeadaaDoor

namespace Go.Proofs.YtbnipieokpeadaaDoor
open Go Go.RowKit
set_option linter.unusedVariables false
set_option linter.unusedSimpArgs false

theorem Tryd.infoOp : (Tryd.prog.info? 33).map (fun i => (i.zero, i.size, i.bytes)) = some (some (.agg #[.int .i64 0, .int .i64 0, .int .i64 0, .int .i64 0, .string ⟨#[]⟩]), 5, 48) := by kernel_rfl

theorem tiny_at {w : World} {b off n cap k : Nat} {ts : List TinyD} {a : TinyD} (h : ArgRow w fT (some ⟨b, off, none⟩) n cap ts) (hk : ts[k]? = some a) :
    w.cell? ⟨b, off + k * 5, none⟩ = some (.int .u8 a.n) ∧ w.cell? ⟨b, off + k * 5 + 1, none⟩ = some (.int .u8 a.r) ∧ w.cell? ⟨b, off + k * 5 + 2, none⟩ = some (.int .u8 a.node) ∧ w.cell? ⟨b, off + k * 5 + 3, none⟩ = some (.int .u8 a.up) ∧ w.cell? ⟨b, off + k * 5 + 4, none⟩ = some (.int .u8 a.name) := by
  have h0 := (List.getElem?_eq_some_iff.1 hk).1
  have hl := h.len
  obtain ⟨b', off', e, hc⟩ := h.cells (by omega)
  simp only [Option.some.injEq, Addr.mk.injEq, and_true] at e
  obtain ⟨rfl, rfl⟩ := e
  have key : ∀ j u, j < 5 → (fT a)[j]? = some u → w.cell? ⟨b, off + k * 5 + j, none⟩ = some u := fun j u hj hu => by
    have := hc (k * 5 + j) u (by rw [get_flat len_fT ts k j a hk hj]; exact hu)
    rw [← Nat.add_assoc] at this; exact this
  exact ⟨key 0 _ (by omega) rfl, key 1 _ (by omega) rfl, key 2 _ (by omega) rfl, key 3 _ (by omega) rfl, key 4 _ (by omega) rfl⟩

set_option maxRecDepth 100000 in
set_option maxHeartbeats 2000000 in
theorem tiny_all {W w : World} {l : List HProp} {ao : Option Addr} {n cap : Nat} {ts : List TinyD} (hs : Sat w (oldH W :: l)) (ha : ArgRow W fT ao n cap ts) (hok : ∀ t ∈ ts, TinyOk t) (hn : n ≤ 30) :
    Calls Tryd.prog 13 #[.slice ao n cap] w fun e w' => ∃ v, e = .returned v ∧ Sat w' (rowT fO v 33 5 (ts.map ofT) :: oldH W :: l) ∧ Kp w w' := by
  obtain ⟨i0, hi, hz0, hz1, hz2⟩ := info_parts Tryd.infoOp
  have HL := Lib.hid ha.len
  have HO := Lib.hid hok
  have hn' : (n : Int) ≤ 30 := by omega
  clear hok
  go_enter Tryd.func13, Tryd.ntmps13
  go_wp2_with fail
  go_loopw [3, 4] (fun ov iv wr => ∃ i : Nat, i ≤ n ∧ iv = .int .i64 i ∧ Sat wr (rowT fO ov 33 5 ((ts.take i).map ofT) :: oldH W :: l) ∧ Kp w wr) (fun _ iv _ => n - (intOf iv).toNat)
  case atStart => exact ⟨0, by omega, rfl, by simpa using hs.tNil fO 33 5, Kp.refl w⟩
  case round =>
    obtain ⟨i, hin, rfl, h2, k2⟩ := hrel
    by_cases hlt : i < n
    case neg =>
      obtain rfl : n = i := by omega
      have e1 : ts.take n = ts := List.take_of_length_le (by have := HL.out; omega)
      rw [e1] at h2
      obtain ⟨ao', cap', rfl⟩ := h2.tLen
      go_wp2_with fail
      go_ret
      exact ⟨_, rfl, h2, k2⟩
    obtain ⟨x, hx⟩ : ∃ x, ts[i]? = some x := ⟨ts[i]'(by rw [HL.out]; exact hlt), by simp⟩
    have hao := ha.old (h2.pull 1)
    obtain ⟨b, off, rfl⟩ : ∃ b off, ao = some ⟨b, off, none⟩ := by
      obtain ⟨b, off, e, _⟩ := hao.cells (by omega)
      exact ⟨b, off, e⟩
    obtain ⟨x0, x1, x2, x3, x4⟩ := tiny_at hao hx
    have i0' : (0 : Int) ≤ (i : Int) := by omega
    have i1' : (i : Int) < (n : Int) := by omega
    have HX := Lib.hid hx
    have HOK := Lib.hid (HO.out x (List.mem_of_getElem? hx))
    have hlen : ((ts.take i).map ofT).length = i := by rw [List.length_map, List.length_take]; have := HL.out; omega
    obtain ⟨xs, hxs⟩ : ∃ xs, xs = (ts.take i).map ofT := ⟨_, rfl⟩
    rw [← hxs] at h2 hlen
    have HXS := Lib.hid hxs
    have HLEN := Lib.hid hlen
    clear hx hao hlen hxs
    obtain ⟨oao, ocap, rfl⟩ := h2.tLen
    rw [HLEN.out] at h2 ⊢
    go_wp2_with fail
    refine (tiny_of h2 HOK.out).mono ?_
    rintro e w3 ⟨rfl, h3, k3⟩
    simp only [aggO]
    have hL := h3.alloc (.cells #[.int .i64 (ofT x).n, .int .i64 (ofT x).r, .int .i64 (ofT x).node, .int .i64 (ofT x).up, .string (ofT x).name] 33)
    have kL := (k2.trans k3).alloc (.cells #[.int .i64 (ofT x).n, .int .i64 (ofT x).r, .int .i64 (ofT x).node, .int .i64 (ofT x).up, .string (ofT x).name] 33)
    clear x0 x1 x2 x3 x4
    go_wp2_with (at_builtin; refine wpList_append_lit rfl (.tmp 11) (.tmp 17) 28 rfl 33 i0 _ 5 48 Tryd.underlying28 hi hz0 hz1 hz2 rfl (by decide) _ _ _ _ _ _ _ rfl (hL.pull 1) 1 1 rfl rfl rfl ?c3 ?c4 ?c5)
    case c3 => rw [HLEN.out]; unfold maxLen; omega
    case c4 => rw [HLEN.out]; omega
    case c5 =>
      intro v' w5 hs5 hk5
      have h7 := Sat.tSnoc (f := fO) (x := ofT x) hs5 rfl
      have e1 : (ts.take (i + 1)).map ofT = xs ++ [ofT x] := by rw [take_snoc' HX.out, List.map_append, ← HXS.out]; rfl
      go_wp2_with fail
      go_roundw
      case rel =>
        refine ⟨i + 1, by omega, by go_num, ?_, kL.trans hk5⟩
        rw [e1]
        exact (h7.pull 1).tail
      case measure => simp [intOf]; omega

set_option maxRecDepth 100000 in
set_option maxHeartbeats 2000000 in
theorem tree_grown {w : World} {l : List HProp} {v : Value} {os : List OpD} (hs : Sat w (rowT fO v 33 5 os :: l)) (hsm : ∀ o ∈ os, Small o) (hn : os.length ≤ 30) :
    Calls Tryd.prog 12 #[v] w fun e w' => ∃ t f ds, Acyc f ∧ Few f ∧ ds.length = os.length ∧ e = .returned (.pointer (some ⟨t, 0, none⟩)) ∧ Sat w' (treeP t f ds :: rowT fO v 33 5 os :: l) ∧ Kp w w' := by
  obtain ⟨ao, cap, rfl⟩ := hs.tLen
  obtain ⟨n, hn0⟩ : ∃ n, n = os.length := ⟨_, rfl⟩
  rw [← hn0] at hs hn ⊢
  have HN := Lib.hid hn0
  have HS := Lib.hid hsm
  have hn' : (n : Int) ≤ 30 := by omega
  clear hn0 hsm
  go_enter Tryd.func12, Tryd.ntmps12
  go_wp2_with fail
  refine (tree_new hs).mono ?_
  rintro e w1 ⟨t, rfl, h1, k1⟩
  go_wp2_with fail
  go_loopw [4] (fun iv wr => ∃ (i : Nat) (f : Int → Option Loc) (ds : List ChD), i ≤ n ∧ iv = .int .i64 i ∧ Hid (Acyc f ∧ Few f ∧ ds.length = i) ∧ Sat wr (treeP t f ds :: rowT fO (.slice ao n cap) 33 5 os :: l) ∧ Kp w wr) (fun iv _ => n - (intOf iv).toNat)
  case atStart => exact ⟨0, _, _, by omega, rfl, Lib.hid ⟨acyc_empty, few_empty, rfl⟩, h1, k1⟩
  case round =>
    clear h1 k1
    obtain ⟨i, f, ds, hin, rfl, hI, h2, k2⟩ := hrel
    by_cases hlt : i < n
    case neg =>
      obtain rfl : n = i := by omega
      go_wp2_with fail
      go_ret
      exact ⟨t, f, ds, hI.out.1, hI.out.2.1, hI.out.2.2, rfl, h2, k2⟩
    obtain ⟨o, ho⟩ : ∃ o, os[i]? = some o := ⟨os[i]'(by rw [← HN.out]; exact hlt), by simp⟩
    rcases (h2.pull 1).tForm with ⟨hv, hp⟩ | ⟨g, off, cap', hv⟩
    · rw [hp] at ho; simp at ho
    simp only [Value.slice.injEq] at hv
    obtain ⟨rfl, -, rfl⟩ := hv
    have x0 := (h2.pull 1).tCell len_fO i 0 ho rfl
    have x1 := (h2.pull 1).tCell len_fO i 1 ho rfl
    have x2 := (h2.pull 1).tCell len_fO i 2 ho rfl
    have x3 := (h2.pull 1).tCell len_fO i 3 ho rfl
    have x4 := (h2.pull 1).tCell len_fO i 4 ho rfl
    rw [Nat.add_zero] at x0
    have i0' : (0 : Int) ≤ (i : Int) := by omega
    have i1' : (i : Int) < (n : Int) := by omega
    have hso := HS.out o (List.mem_of_getElem? ho)
    obtain ⟨r, hr⟩ : ∃ r : Bool, r = true ↔ known f o.up = true ∧ ¬ Anc f o.node o.up := by
      by_cases h : known f o.up = true ∧ ¬ Anc f o.node o.up
      · exact ⟨true, fun _ => h, fun _ => rfl⟩
      · exact ⟨false, fun e => (by cases e), fun e => absurd e h⟩
    have hcall := tree_apply (o := o) h2 hI.out.1 (isRight_small hso) hr (by rw [hI.out.2.2]; omega)
    have hA' : Hid (Acyc (applied f o r) ∧ Few (applied f o r)) := by
      refine Lib.hid ?_
      cases r with
      | false => exact ⟨hI.out.1, hI.out.2.1⟩
      | true => exact ⟨hI.out.1.put (hr.1 rfl).2, hI.out.2.1.put hso.node0 hso.node1⟩
    clear hso hr ho
    go_wp2_with fail
    refine hcall.mono ?_
    rintro e w3 ⟨rfl, h3, k3⟩
    go_wp2_with fail
    go_roundw
    case rel => exact ⟨i + 1, _, _, by omega, by go_num, Lib.hid ⟨hA'.out.1, hA'.out.2, by rw [List.length_append, hI.out.2.2]; rfl⟩, h3, k2.trans k3⟩
    case measure => simp [intOf]; omega

end Go.Proofs.YtbnipieokpeadaaDoor

namespace Go.Proofs.YtbnipieokpeadaaDoor
open Go Go.RowKit Go.ChangeShapes Go.WideShapes Go.Deep
set_option linter.unusedVariables false
set_option linter.unusedSimpArgs false

section
variable {H : Type} {enc : TypeId × Value → H} {w : World} {base : Nat} {spare : Nat → Bool} {held : Bool}
set_option maxRecDepth 100000 in
theorem open_tiny (n : Nat) (cs : List Value) (y : DataW H × List MemPlace) (h : DataW.trod enc Tryd.prog w base spare held n 24 cs = some y) (hl : cs.length = 5) : ∃ x : TinyD, cs = fT x ∧ TinyOk x := by
  obtain ⟨m, hc⟩ := struct_cells Tryd.underlying24 (by kernel_rfl) h hl
  obtain ⟨v0, z0, h0, t0⟩ := hc 0 _ rfl
  obtain ⟨v1, z1, h1, t1⟩ := hc 1 _ rfl
  obtain ⟨v2, z2, h2, t2⟩ := hc 2 _ rfl
  obtain ⟨v3, z3, h3, t3⟩ := hc 3 _ rfl
  obtain ⟨v4, z4, h4, t4⟩ := hc 4 _ rfl
  obtain ⟨x0, e0, _, w0⟩ := DataW.trod_int Tryd.underlying5 t0
  obtain ⟨x1, e1, _, w1⟩ := DataW.trod_int Tryd.underlying5 t1
  obtain ⟨x2, e2, _, w2⟩ := DataW.trod_int Tryd.underlying5 t2
  obtain ⟨x3, e3, _, w3⟩ := DataW.trod_int Tryd.underlying5 t3
  obtain ⟨x4, e4, _, w4⟩ := DataW.trod_int Tryd.underlying5 t4
  simp only [List.cons.injEq, and_true] at e0 e1 e2 e3 e4
  subst e0 e1 e2 e3 e4
  match cs, hl with
  | [c0, c1, c2, c3, c4], _ =>
    simp at h0 h1 h2 h3 h4
    subst h0 h1 h2 h3 h4
    exact ⟨⟨x0, x1, x2, x3, x4⟩, rfl, (wf_u8 w0).1, (wf_u8 w0).2, (wf_u8 w1).1, (wf_u8 w1).2, (wf_u8 w2).1, (wf_u8 w2).2, (wf_u8 w3).1, (wf_u8 w3).2, (wf_u8 w4).1, (wf_u8 w4).2⟩
set_option maxRecDepth 100000 in
theorem arg_tiny {v : Value} {d : DataW H} {ps : List MemPlace} {b0 : Nat} (hval : Value.okWide Tryd.prog w .any b0 24 v) (hd : DataW.Trod enc Tryd.prog w base spare held 24 v d ps) :
    ∃ x : TinyD, v = .agg #[.int .u8 x.n, .int .u8 x.r, .int .u8 x.node, .int .u8 x.up, .int .u8 x.name] ∧ TinyOk x := by
  obtain ⟨cs, rfl, hsz⟩ := okWide_struct Tryd.underlying24 hval
  obtain ⟨fuel, hf⟩ := hd
  have hC : Tryd.prog.cellsOf 24 = 5 := by kernel_rfl
  obtain ⟨x, hx, hok⟩ := open_tiny fuel _ _ hf (by simp [Value.cells, hsz, hC])
  refine ⟨x, ?_, hok⟩
  obtain ⟨l⟩ := cs
  simp only [Value.cells] at hx
  rw [hx]
  rfl
end

end Go.Proofs.YtbnipieokpeadaaDoor

namespace Go.Proofs.YtbnipieokpeadaaDoor
open Go Go.RowKit Go.ChangeShapes Go.WideShapes Go.Deep
set_option linter.unusedVariables false
set_option linter.unusedSimpArgs false

section
variable {H : Type} {enc : TypeId × Value → H} {w : World} {base : Nat} {spare : Nat → Bool} {held : Bool}
set_option maxRecDepth 100000 in
theorem open_op (n : Nat) (cs : List Value) (y : DataW H × List MemPlace) (h : DataW.trod enc Tryd.prog w base spare held n 33 cs = some y) (hl : cs.length = 5) : ∃ x : OpD, cs = fO x ∧ x.name.size ≤ maxLen := by
  obtain ⟨ys, m, _, _, _, hyl, hg⟩ := DataW.trod_struct Tryd.underlying33 h
  have hs2 : Tryd.prog.cellsOf 31 = 2 := by kernel_rfl
  have hi1 : Tryd.prog.cellsOf 3 = 1 := by kernel_rfl
  have hs1 : Tryd.prog.cellsOf 9 = 1 := by kernel_rfl
  match cs, hl with
  | [c0, c1, c2, c3, c4], _ =>
    have g0 : DataW.trod enc Tryd.prog w base spare held m 31 (([c0, c1, c2, c3, c4].drop 0).take (Tryd.prog.cellsOf 31)) = ys[0]? := hg 0 _ rfl
    have g1 : DataW.trod enc Tryd.prog w base spare held m 3 (([c0, c1, c2, c3, c4].drop 2).take (Tryd.prog.cellsOf 3)) = ys[1]? := hg 1 _ rfl
    have g2 : DataW.trod enc Tryd.prog w base spare held m 3 (([c0, c1, c2, c3, c4].drop 3).take (Tryd.prog.cellsOf 3)) = ys[2]? := hg 2 _ rfl
    have g3 : DataW.trod enc Tryd.prog w base spare held m 9 (([c0, c1, c2, c3, c4].drop 4).take (Tryd.prog.cellsOf 9)) = ys[3]? := hg 3 _ rfl
    rw [hs2] at g0
    rw [hi1] at g1 g2
    rw [hs1] at g3
    have yl : ys.length = 4 := hyl
    have e0 : ys[0]? = some (ys[0]'(by omega)) := List.getElem?_eq_getElem (by omega)
    have e1 : ys[1]? = some (ys[1]'(by omega)) := List.getElem?_eq_getElem (by omega)
    have e2 : ys[2]? = some (ys[2]'(by omega)) := List.getElem?_eq_getElem (by omega)
    have e3 : ys[3]? = some (ys[3]'(by omega)) := List.getElem?_eq_getElem (by omega)
    obtain ⟨k, hk⟩ := struct_cells Tryd.underlying31 (by kernel_rfl) (g0.trans e0) rfl
    obtain ⟨v0, z0, q0, t0⟩ := hk 0 _ rfl
    obtain ⟨v1, z1, q1, t1⟩ := hk 1 _ rfl
    obtain ⟨x0, r0, _, _⟩ := DataW.trod_int Tryd.underlying3 t0
    obtain ⟨x1, r1, _, _⟩ := DataW.trod_int Tryd.underlying3 t1
    obtain ⟨x2, r2, _, _⟩ := DataW.trod_int Tryd.underlying3 (g1.trans e1)
    obtain ⟨x3, r3, _, _⟩ := DataW.trod_int Tryd.underlying3 (g2.trans e2)
    obtain ⟨s4, r4, _, hz⟩ := DataW.trod_string Tryd.underlying9 (g3.trans e3)
    have p2 : c2 = Value.int .i64 x2 := (List.cons.inj r2).1
    have p3 : c3 = Value.int .i64 x3 := (List.cons.inj r3).1
    have p4 : c4 = Value.string s4 := (List.cons.inj r4).1
    have p0 : c0 = Value.int .i64 x0 := (Option.some.inj q0).trans (List.cons.inj r0).1
    have p1 : c1 = Value.int .i64 x1 := (Option.some.inj q1).trans (List.cons.inj r1).1
    refine ⟨⟨x0, x1, x2, x3, s4⟩, ?_, hz⟩
    rw [p0, p1, p2, p3, p4]
    rfl
end

/-- Are all names short? -/
def shortO (os : List OpD) : Bool := os.all fun o => decide (o.name.size ≤ 60)

set_option maxRecDepth 100000 in
set_option maxHeartbeats 1000000 in
theorem short_ops {W w : World} {l : List HProp} {ao : Option Addr} {n cap : Nat} {os : List OpD} (hs : Sat w (oldH W :: l)) (hr : ArgRow W fO ao n cap os) :
    Calls Tryd.prog 26 #[.slice ao n cap] w fun e w' => e = .returned (.bool (shortO os)) ∧ Sat w' (oldH W :: l) ∧ Kp w w' := by
  have HL := Lib.hid hr.len
  have hle := hr.le
  have hsm := hr.small
  unfold maxLen at hsm
  obtain ⟨ANS, hANS⟩ : ∃ ANS, shortO os = ANS := ⟨_, rfl⟩
  rw [hANS]
  have HA := Lib.hid hANS
  clear hANS
  go_enter Tryd.func26, Tryd.ntmps26
  go_wp2_with fail
  go_loopw [3] (fun iv wr => ∃ i : Nat, i ≤ n ∧ iv = .int .i64 i ∧ Hid (∀ j, j < i → ∀ o, os[j]? = some o → o.name.size ≤ 60) ∧ Sat wr (oldH W :: l) ∧ Kp w wr) (fun iv _ => n - (intOf iv).toNat)
  case atStart => exact ⟨0, by omega, rfl, Lib.hid (fun j hj => absurd hj (Nat.not_lt_zero _)), hs, Kp.refl w⟩
  case round =>
    obtain ⟨i, hin, rfl, hI, h2, k2⟩ := hrel
    by_cases hlt : i < n
    case neg =>
      obtain rfl : n = i := by omega
      have HOK := Lib.hid (show ANS = true by
        rw [← HA.out]
        apply List.all_eq_true.2
        intro o ho
        obtain ⟨j, hj⟩ := List.getElem?_of_mem ho
        have := (List.getElem?_eq_some_iff.1 hj).1
        rw [HL.out] at this
        simpa using hI.out j this o hj)
      clear hI
      go_wp2_with fail
      obtain rfl := HOK.out
      go_ret
      exact ⟨rfl, h2, k2⟩
    obtain ⟨o, ho⟩ : ∃ o, os[i]? = some o := ⟨_, List.getElem?_eq_getElem (by rw [HL.out]; exact hlt)⟩
    have har := hr.old h2
    obtain ⟨b, off, rfl⟩ : ∃ b off, ao = some ⟨b, off, none⟩ := by
      obtain ⟨b, off, e, _⟩ := har.cells (by omega)
      exact ⟨b, off, e⟩
    obtain ⟨_, _, _, _, x4⟩ := op_at har ho
    have i0' : (0 : Int) ≤ (i : Int) := by omega
    have i1' : (i : Int) < (n : Int) := by omega
    have iw : IntKind.i64.wrap ((i : Int) + 1) = (i : Int) + 1 := by rw [IntWalk.i64_in _ (by omega)]
    by_cases hz : 60 < o.name.size
    · have hz' : (60 : Int) < (o.name.size : Int) := by omega
      have HOK := Lib.hid (show ANS = false by
        rw [← HA.out]
        cases hall : shortO os with
        | false => rfl
        | true =>
          have := List.all_eq_true.1 hall o (List.mem_of_getElem? ho)
          simp at this
          omega)
      clear hI ho har hz
      go_wp2_with fail
      obtain rfl := HOK.out
      go_ret
      exact ⟨rfl, h2, k2⟩
    · have hz' : ¬ (60 : Int) < (o.name.size : Int) := by omega
      have HI2 := Lib.hid (show ∀ j, j < i + 1 → ∀ o, os[j]? = some o → o.name.size ≤ 60 from fun j hj o' ho' => by
        by_cases e : j = i
        · subst e
          rw [ho] at ho'
          cases ho'
          omega
        · exact hI.out j (by omega) o' ho')
      clear hI ho har hz
      go_wp2_with fail
      go_roundw
      case rel => exact ⟨i + 1, by omega, by go_num, HI2, h2, k2⟩
      case measure => simp [intOf]; omega

end Go.Proofs.YtbnipieokpeadaaDoor

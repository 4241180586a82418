import Derived.Test.YtddglbjhhnipgaaGreatDoorGK
import Derived.Test.YtddglbjhhnipgaaGreatDoorGA
import Derived.Test.YtddglbjhhnipgaaGreatDoorGL
namespace Go.Proofs.YtddglbjhhnipgaaGreatDoor
open Go Go.RowKit
open Go Go.RowKit Go.ChangeShapes Go.WideShapes Go.Deep
set_option linter.unusedVariables false
set_option linter.unusedSimpArgs false
set_option maxRecDepth 100000
set_option maxHeartbeats 8000000
structure TinyD where
 n : Int
 r : Int
 node : Int
 up : Int
 name : Int
def fT (t : TinyD) : List Value := [.int .u8 t.n, .int .u8 t.r, .int .u8 t.node, .int .u8 t.up, .int .u8 t.name]
theorem len_fT (t : TinyD) : (fT t).length = 5 := rfl
structure TinyOk (t : TinyD) : Prop where
 n0 : 0 ≤ t.n
 n1 : t.n < 256
 r0 : 0 ≤ t.r
 r1 : t.r < 256
 d0 : 0 ≤ t.node
 d1 : t.node < 256
 u0 : 0 ≤ t.up
 u1 : t.up < 256
 m0 : 0 ≤ t.name
 m1 : t.name < 256
def upOf (u : Int) : Int := if 2 ≤ u % 10 then 254 + u % 10 else u % 10
def ofT (t : TinyD) : OpD := ⟨1 + t.n % 40, t.r % 4, 256 + t.node % 8, upOf t.up, letter (t.name % 8).toNat⟩
theorem small_ofT {t : TinyD} (h : TinyOk t) : Small (ofT t) := by
 obtain ⟨n0, n1, r0, r1, d0, d1, u0, u1, m0, m1⟩ := h
 refine ⟨?_, ?_, ?_, ?_, ?_, ?_, ?_, (t.name % 8).toNat, by omega, rfl⟩
 all_goals (simp only [ofT, upOf]; first | omega | (split <;> omega))
theorem short_letter {w : World} {x : Int} (h0 : 0 ≤ x) (h1 : x < 256) : Calls Tryz.prog 84 #[.int .u8 x] w fun e w' => e = .returned (.string (letter (x % 8).toNat)) ∧ w = w' := by
 obtain ⟨k, hk⟩ : ∃ k, x % 8 = k := ⟨_, rfl⟩
 rw [hk]
 have h : k = 0 ∨ k = 1 ∨ k = 2 ∨ k = 3 ∨ k = 4 ∨ k = 5 ∨ k = 6 ∨ k = 7 := by omega
 rcases h with rfl | rfl | rfl | rfl | rfl | rfl | rfl | rfl
 all_goals
   go_enter Tryz.func84, Tryz.ntmps84
   go_wp2_with fail
   go_ret
   exact ⟨by kernel_rfl, rfl⟩
theorem small_stamp {w : World} {l : List HProp} {a b : Int} (hs : Sat w l) (h0 : 0 ≤ a) (h1 : a < 256) (h2 : 0 ≤ b) (h3 : b < 256) : Calls Tryz.prog 83 #[.int .u8 a, .int .u8 b] w fun e w' => e = .returned (.agg #[.int .i64 (1 + a % 40), .int .i64 (b % 4)]) ∧ Sat w' l ∧ Kp w w' := by
 go_enter Tryz.func83, Tryz.ntmps83
 go_wp2_with fail
 refine bodyPost_ret (v := .agg #[.int .i64 (1 + a % 40), .int .i64 (b % 4)]) (by simp [results, Tryz.results83, go_sem]) rfl ⟨rfl, hs.alloc' _, (Kp.refl w).alloc _⟩
theorem tiny_of {w : World} {l : List HProp} {t : TinyD} (hs : Sat w l) (ht : TinyOk t) : Calls Tryz.prog 42 #[.agg #[.int .u8 t.n, .int .u8 t.r, .int .u8 t.node, .int .u8 t.up, .int .u8 t.name]] w fun e w' => e = .returned (aggO (ofT t)) ∧ Sat w' l ∧ Kp w w' := by
 obtain ⟨n, r, node, up, name⟩ := t
 obtain ⟨n0, n1, r0, r1, d0, d1, u0, u1, m0, m1⟩ := ht
 dsimp only at n0 n1 r0 r1 d0 d1 u0 u1 m0 m1
 have hB := (hs.alloc (.cells #[.int .u8 n, .int .u8 r, .int .u8 node, .int .u8 up, .int .u8 name] 91)).alloc (.cells #[.int .i64 0, .int .i64 0, .int .i64 0, .int .i64 0, .string ⟨#[]⟩] 88)
 have kB := ((Kp.refl w).alloc (.cells #[.int .u8 n, .int .u8 r, .int .u8 node, .int .u8 up, .int .u8 name] 91)).alloc (.cells #[.int .i64 0, .int .i64 0, .int .i64 0, .int .i64 0, .string ⟨#[]⟩] 88)
 simp only [World.size_alloc] at hB
 go_enter Tryz.func42, Tryz.ntmps42
 go_upto_region 1 with (fail)
 generalize World.alloc _ _ = w1 at hB kB ⊢
 have hne := hB.ne
 generalize w.heap.size + 1 = C at hB hne ⊢
 generalize w.heap.size = B at hB hne ⊢
 have b0 := (hB.pull 1).cell 0
 have b1 := (hB.pull 1).cell 1
 have b2 := (hB.pull 1).cell 2
 have b3 := (hB.pull 1).cell 3
 have b4 := (hB.pull 1).cell 4
 simp at b0 b1 b2 b3 b4
 by_cases hu : 2 ≤ up % 10
 · have hup : upOf up = 254 + up % 10 := by unfold upOf; rw [if_pos hu]
   go_upto_region 4 with (fail)
   have t1 : node.tmod 8 = node % 8 := Int.tmod_eq_emod_of_nonneg d0
   have w1' : IntKind.i64.wrap (node % 8) = node % 8 := IntWalk.i64_in _ (by omega)
   have w2' : IntKind.i64.wrap (256 + node % 8) = 256 + node % 8 := IntWalk.i64_in _ (by omega)
   go_region_held3 (fun w' => w'.cell? ⟨B, 0, none⟩ = some (.int .u8 n) ∧ w'.cell? ⟨B, 1, none⟩ = some (.int .u8 r) ∧ w'.cell? ⟨B, 2, none⟩ = some (.int .u8 node) ∧ w'.cell? ⟨B, 3, none⟩ = some (.int .u8 up) ∧ w'.cell? ⟨B, 4, none⟩ = some (.int .u8 name)) (first | go_keep | exact ⟨b0, b1, b2, b3, b4⟩ | exact ⟨(h3.pull 1).cell 0, (h3.pull 1).cell 1, (h3.pull 1).cell 2, (h3.pull 1).cell 3, (h3.pull 1).cell 4⟩)
     (first | (go_at_call 83; refine (small_stamp (hB.drewN 1) n0 n1 r0 r1).mono ?_; rintro e w3 ⟨rfl, h3, k3⟩; have c0 := h3.cell 0; have c1 := h3.cell 1; have c2 := h3.cell 2; have c3 := h3.cell 3; have c4 := h3.cell 4; have g0 := h3.free 0; have g1 := h3.free 1; have g2 := h3.free 2; have g3 := h3.free 3; have g4 := h3.free 4; simp at c0 c1 c2 c3 c4) | (go_at_call 84; refine (short_letter m0 m1).mono ?_; rintro e w4 ⟨rfl, rfl⟩))
   have h5 := ((((h3.set 0 (.int .i64 (1 + n % 40))).set 1 (.int .i64 (r % 4))).set 2 (.int .i64 (256 + node % 8))).set 3 (.int .i64 (254 + up % 10))).set 4 (.string (letter (name % 8).toNat))
   have k5 := (((((kB.drewN 1).trans k3).setCell ⟨C, 0, none⟩ (.int .i64 (1 + n % 40))).setCell ⟨C, 1, none⟩ (.int .i64 (r % 4))).setCell ⟨C, 2, none⟩ (.int .i64 (256 + node % 8))).setCell ⟨C, 3, none⟩ (.int .i64 (254 + up % 10)) |>.setCell ⟨C, 4, none⟩ (.string (letter (name % 8).toNat))
   have e0 := h5.cell 0
   have e1 := h5.cell 1
   have e2 := h5.cell 2
   have e3 := h5.cell 3
   have e4 := h5.cell 4
   simp at e0 e1 e2 e3 e4
   go_wp2_with fail
   exact bodyPost_ret (v := .agg #[.int .i64 (1 + n % 40), .int .i64 (r % 4), .int .i64 (256 + node % 8), .int .i64 (254 + up % 10), .string (letter (name % 8).toNat)]) (by simp [results, Tryz.results42, go_sem, e0, e1, e2, e3, e4]) rfl ⟨by simp only [aggO, ofT, hup], h5.tail.tail, k5⟩
 · have hup : upOf up = up % 10 := by unfold upOf; rw [if_neg hu]
   have hu' : up % 10 < 2 := by omega
   clear hu
   go_upto_region 4 with (fail)
   have t1 : node.tmod 8 = node % 8 := Int.tmod_eq_emod_of_nonneg d0
   have w1' : IntKind.i64.wrap (node % 8) = node % 8 := IntWalk.i64_in _ (by omega)
   have w2' : IntKind.i64.wrap (256 + node % 8) = 256 + node % 8 := IntWalk.i64_in _ (by omega)
   go_region_held3 (fun w' => w'.cell? ⟨B, 0, none⟩ = some (.int .u8 n) ∧ w'.cell? ⟨B, 1, none⟩ = some (.int .u8 r) ∧ w'.cell? ⟨B, 2, none⟩ = some (.int .u8 node) ∧ w'.cell? ⟨B, 3, none⟩ = some (.int .u8 up) ∧ w'.cell? ⟨B, 4, none⟩ = some (.int .u8 name)) (first | go_keep | exact ⟨b0, b1, b2, b3, b4⟩ | exact ⟨(h3.pull 1).cell 0, (h3.pull 1).cell 1, (h3.pull 1).cell 2, (h3.pull 1).cell 3, (h3.pull 1).cell 4⟩)
     (first | (go_at_call 83; refine (small_stamp (hB.drewN 1) n0 n1 r0 r1).mono ?_; rintro e w3 ⟨rfl, h3, k3⟩; have c0 := h3.cell 0; have c1 := h3.cell 1; have c2 := h3.cell 2; have c3 := h3.cell 3; have c4 := h3.cell 4; have g0 := h3.free 0; have g1 := h3.free 1; have g2 := h3.free 2; have g3 := h3.free 3; have g4 := h3.free 4; simp at c0 c1 c2 c3 c4) | (go_at_call 84; refine (short_letter m0 m1).mono ?_; rintro e w4 ⟨rfl, rfl⟩))
   have h5 := ((((h3.set 0 (.int .i64 (1 + n % 40))).set 1 (.int .i64 (r % 4))).set 2 (.int .i64 (256 + node % 8))).set 3 (.int .i64 (up % 10))).set 4 (.string (letter (name % 8).toNat))
   have k5 := (((((kB.drewN 1).trans k3).setCell ⟨C, 0, none⟩ (.int .i64 (1 + n % 40))).setCell ⟨C, 1, none⟩ (.int .i64 (r % 4))).setCell ⟨C, 2, none⟩ (.int .i64 (256 + node % 8))).setCell ⟨C, 3, none⟩ (.int .i64 (up % 10)) |>.setCell ⟨C, 4, none⟩ (.string (letter (name % 8).toNat))
   have e0 := h5.cell 0
   have e1 := h5.cell 1
   have e2 := h5.cell 2
   have e3 := h5.cell 3
   have e4 := h5.cell 4
   simp at e0 e1 e2 e3 e4
   go_wp2_with fail
   exact bodyPost_ret (v := .agg #[.int .i64 (1 + n % 40), .int .i64 (r % 4), .int .i64 (256 + node % 8), .int .i64 (up % 10), .string (letter (name % 8).toNat)]) (by simp [results, Tryz.results42, go_sem, e0, e1, e2, e3, e4]) rfl ⟨by simp only [aggO, ofT, hup], h5.tail.tail, k5⟩
theorem Tryz.infoOp : (Tryz.prog.info? 88).map (fun i => (i.zero, i.size, i.bytes)) = some (some (.agg #[.int .i64 0, .int .i64 0, .int .i64 0, .int .i64 0, .string ⟨#[]⟩]), 5, 48) := by kernel_rfl
theorem tiny_at {w : World} {b off n cap k : Nat} {ts : List TinyD} {a : TinyD} (h : ArgRow w fT (some ⟨b, off, none⟩) n cap ts) (hk : ts[k]? = some a) :
   w.cell? ⟨b, off + k * 5, none⟩ = some (.int .u8 a.n) ∧ w.cell? ⟨b, off + k * 5 + 1, none⟩ = some (.int .u8 a.r) ∧ w.cell? ⟨b, off + k * 5 + 2, none⟩ = some (.int .u8 a.node) ∧ w.cell? ⟨b, off + k * 5 + 3, none⟩ = some (.int .u8 a.up) ∧ w.cell? ⟨b, off + k * 5 + 4, none⟩ = some (.int .u8 a.name) := by
 have h0 := (List.getElem?_eq_some_iff.1 hk).1
 have hl := h.len
 obtain ⟨b', off', e, hc⟩ := h.cells (by omega)
 simp only [Option.some.injEq, Addr.mk.injEq, and_true] at e
 obtain ⟨rfl, rfl⟩ := e
 have key : ∀ j u, j < 5 → (fT a)[j]? = some u → w.cell? ⟨b, off + k * 5 + j, none⟩ = some u := fun j u hj hu => by
   have := hc (k * 5 + j) u (by rw [get_flat len_fT ts k j a hk hj]; exact hu)
   rw [← Nat.add_assoc] at this; exact this
 exact ⟨key 0 _ (by omega) rfl, key 1 _ (by omega) rfl, key 2 _ (by omega) rfl, key 3 _ (by omega) rfl, key 4 _ (by omega) rfl⟩
theorem tiny_all {W w : World} {l : List HProp} {ao : Option Addr} {n cap : Nat} {ts : List TinyD} (hs : Sat w (oldH W :: l)) (ha : ArgRow W fT ao n cap ts) (hok : ∀ t ∈ ts, TinyOk t) (hn : n ≤ 30) :
   Calls Tryz.prog 72 #[.slice ao n cap] w fun e w' => ∃ v, e = .returned v ∧ Sat w' (rowT fO v 88 5 (ts.map ofT) :: oldH W :: l) ∧ Kp w w' := by
 obtain ⟨i0, hi, hz0, hz1, hz2⟩ := info_parts Tryz.infoOp
 have HL := Lib.hid ha.len
 have HO := Lib.hid hok
 have hn' : (n : Int) ≤ 30 := by omega
 clear hok
 go_enter Tryz.func72, Tryz.ntmps72
 go_wp2_with fail
 go_loopw [3, 4] (fun ov iv wr => ∃ i : Nat, i ≤ n ∧ iv = .int .i64 i ∧ Sat wr (rowT fO ov 88 5 ((ts.take i).map ofT) :: oldH W :: l) ∧ Kp w wr) (fun _ iv _ => n - (intOf iv).toNat)
 case atStart => exact ⟨0, by omega, rfl, by simpa using hs.tNil fO 88 5, Kp.refl w⟩
 case round =>
   obtain ⟨i, hin, rfl, h2, k2⟩ := hrel
   by_cases hlt : i < n
   case neg =>
     obtain rfl : n = i := by omega
     have e1 : ts.take n = ts := List.take_of_length_le (by have := HL.out; omega)
     rw [e1] at h2
     obtain ⟨ao', cap', rfl⟩ := h2.tLen
     go_wp2_with fail
     go_ret
     exact ⟨_, rfl, h2, k2⟩
   obtain ⟨x, hx⟩ : ∃ x, ts[i]? = some x := ⟨ts[i]'(by rw [HL.out]; exact hlt), by simp⟩
   have hao := ha.old (h2.pull 1)
   obtain ⟨b, off, rfl⟩ : ∃ b off, ao = some ⟨b, off, none⟩ := by
     obtain ⟨b, off, e, _⟩ := hao.cells (by omega)
     exact ⟨b, off, e⟩
   obtain ⟨x0, x1, x2, x3, x4⟩ := tiny_at hao hx
   have i0' : (0 : Int) ≤ (i : Int) := by omega
   have i1' : (i : Int) < (n : Int) := by omega
   have HX := Lib.hid hx
   have HOK := Lib.hid (HO.out x (List.mem_of_getElem? hx))
   have hlen : ((ts.take i).map ofT).length = i := by rw [List.length_map, List.length_take]; have := HL.out; omega
   obtain ⟨xs, hxs⟩ : ∃ xs, xs = (ts.take i).map ofT := ⟨_, rfl⟩
   rw [← hxs] at h2 hlen
   have HXS := Lib.hid hxs
   have HLEN := Lib.hid hlen
   clear hx hao hlen hxs
   obtain ⟨oao, ocap, rfl⟩ := h2.tLen
   rw [HLEN.out] at h2 ⊢
   go_wp2_with fail
   refine (tiny_of h2 HOK.out).mono ?_
   rintro e w3 ⟨rfl, h3, k3⟩
   simp only [aggO]
   have hL := h3.alloc (.cells #[.int .i64 (ofT x).n, .int .i64 (ofT x).r, .int .i64 (ofT x).node, .int .i64 (ofT x).up, .string (ofT x).name] 88)
   have kL := (k2.trans k3).alloc (.cells #[.int .i64 (ofT x).n, .int .i64 (ofT x).r, .int .i64 (ofT x).node, .int .i64 (ofT x).up, .string (ofT x).name] 88)
   clear x0 x1 x2 x3 x4
   go_wp2_with (at_builtin; refine wpList_append_lit rfl (.tmp 11) (.tmp 17) 144 rfl 88 i0 _ 5 48 Tryz.underlying144 hi hz0 hz1 hz2 rfl (by decide) _ _ _ _ _ _ _ rfl (hL.pull 1) 1 1 rfl rfl rfl ?c3 ?c4 ?c5)
   case c3 => rw [HLEN.out]; unfold maxLen; omega
   case c4 => rw [HLEN.out]; omega
   case c5 =>
     intro v' w5 hs5 hk5
     have h7 := Sat.tSnoc (f := fO) (x := ofT x) hs5 rfl
     have e1 : (ts.take (i + 1)).map ofT = xs ++ [ofT x] := by rw [take_snoc' HX.out, List.map_append, ← HXS.out]; rfl
     go_wp2_with fail
     go_roundw
     case rel =>
       refine ⟨i + 1, by omega, by go_num, ?_, kL.trans hk5⟩
       rw [e1]
       exact (h7.pull 1).tail
     case measure => simp [intOf]; omega
section
variable {H : Type} {enc : TypeId × Value → H} {w : World} {base : Nat} {spare : Nat → Bool} {held : Bool}
theorem open_tiny (n : Nat) (cs : List Value) (y : DataW H × List MemPlace) (h : DataW.trod enc Tryz.prog w base spare held n 91 cs = some y) (hl : cs.length = 5) : ∃ x : TinyD, cs = fT x ∧ TinyOk x := by
 obtain ⟨m, hc⟩ := struct_cells Tryz.underlying91 (by kernel_rfl) h hl
 obtain ⟨v0, z0, h0, t0⟩ := hc 0 _ rfl
 obtain ⟨v1, z1, h1, t1⟩ := hc 1 _ rfl
 obtain ⟨v2, z2, h2, t2⟩ := hc 2 _ rfl
 obtain ⟨v3, z3, h3, t3⟩ := hc 3 _ rfl
 obtain ⟨v4, z4, h4, t4⟩ := hc 4 _ rfl
 obtain ⟨x0, e0, _, w0⟩ := DataW.trod_int Tryz.underlying5 t0
 obtain ⟨x1, e1, _, w1⟩ := DataW.trod_int Tryz.underlying5 t1
 obtain ⟨x2, e2, _, w2⟩ := DataW.trod_int Tryz.underlying5 t2
 obtain ⟨x3, e3, _, w3⟩ := DataW.trod_int Tryz.underlying5 t3
 obtain ⟨x4, e4, _, w4⟩ := DataW.trod_int Tryz.underlying5 t4
 simp only [List.cons.injEq, and_true] at e0 e1 e2 e3 e4
 subst e0 e1 e2 e3 e4
 match cs, hl with
 | [c0, c1, c2, c3, c4], _ =>
   simp at h0 h1 h2 h3 h4
   subst h0 h1 h2 h3 h4
   exact ⟨⟨x0, x1, x2, x3, x4⟩, rfl, (wf_u8 w0).1, (wf_u8 w0).2, (wf_u8 w1).1, (wf_u8 w1).2, (wf_u8 w2).1, (wf_u8 w2).2, (wf_u8 w3).1, (wf_u8 w3).2, (wf_u8 w4).1, (wf_u8 w4).2⟩
theorem arg_tiny {v : Value} {d : DataW H} {ps : List MemPlace} {b0 : Nat} (hval : Value.okWide Tryz.prog w .any b0 91 v) (hd : DataW.Trod enc Tryz.prog w base spare held 91 v d ps) :
   ∃ x : TinyD, v = .agg #[.int .u8 x.n, .int .u8 x.r, .int .u8 x.node, .int .u8 x.up, .int .u8 x.name] ∧ TinyOk x := by
 obtain ⟨cs, rfl, hsz⟩ := okWide_struct Tryz.underlying91 hval
 obtain ⟨fuel, hf⟩ := hd
 have hC : Tryz.prog.cellsOf 91 = 5 := by kernel_rfl
 obtain ⟨x, hx, hok⟩ := open_tiny fuel _ _ hf (by simp [Value.cells, hsz, hC])
 refine ⟨x, ?_, hok⟩
 obtain ⟨l⟩ := cs
 simp only [Value.cells] at hx
 rw [hx]
 rfl
end
section
variable {H : Type} {enc : TypeId × Value → H} {w : World} {base : Nat} {spare : Nat → Bool} {held : Bool}
theorem open_op (n : Nat) (cs : List Value) (y : DataW H × List MemPlace) (h : DataW.trod enc Tryz.prog w base spare held n 88 cs = some y) (hl : cs.length = 5) : ∃ x : OpD, cs = fO x ∧ x.name.size ≤ maxLen := by
 obtain ⟨ys, m, _, _, _, hyl, hg⟩ := DataW.trod_struct Tryz.underlying88 h
 have hs2 : Tryz.prog.cellsOf 86 = 2 := by kernel_rfl
 have hi1 : Tryz.prog.cellsOf 3 = 1 := by kernel_rfl
 have hs1 : Tryz.prog.cellsOf 9 = 1 := by kernel_rfl
 match cs, hl with
 | [c0, c1, c2, c3, c4], _ =>
   have g0 : DataW.trod enc Tryz.prog w base spare held m 86 (([c0, c1, c2, c3, c4].drop 0).take (Tryz.prog.cellsOf 86)) = ys[0]? := hg 0 _ rfl
   have g1 : DataW.trod enc Tryz.prog w base spare held m 3 (([c0, c1, c2, c3, c4].drop 2).take (Tryz.prog.cellsOf 3)) = ys[1]? := hg 1 _ rfl
   have g2 : DataW.trod enc Tryz.prog w base spare held m 3 (([c0, c1, c2, c3, c4].drop 3).take (Tryz.prog.cellsOf 3)) = ys[2]? := hg 2 _ rfl
   have g3 : DataW.trod enc Tryz.prog w base spare held m 9 (([c0, c1, c2, c3, c4].drop 4).take (Tryz.prog.cellsOf 9)) = ys[3]? := hg 3 _ rfl
   rw [hs2] at g0
   rw [hi1] at g1 g2
   rw [hs1] at g3
   have yl : ys.length = 4 := hyl
   have e0 : ys[0]? = some (ys[0]'(by omega)) := List.getElem?_eq_getElem (by omega)
   have e1 : ys[1]? = some (ys[1]'(by omega)) := List.getElem?_eq_getElem (by omega)
   have e2 : ys[2]? = some (ys[2]'(by omega)) := List.getElem?_eq_getElem (by omega)
   have e3 : ys[3]? = some (ys[3]'(by omega)) := List.getElem?_eq_getElem (by omega)
   obtain ⟨k, hk⟩ := struct_cells Tryz.underlying86 (by kernel_rfl) (g0.trans e0) rfl
   obtain ⟨v0, z0, q0, t0⟩ := hk 0 _ rfl
   obtain ⟨v1, z1, q1, t1⟩ := hk 1 _ rfl
   obtain ⟨x0, r0, _, _⟩ := DataW.trod_int Tryz.underlying3 t0
   obtain ⟨x1, r1, _, _⟩ := DataW.trod_int Tryz.underlying3 t1
   obtain ⟨x2, r2, _, _⟩ := DataW.trod_int Tryz.underlying3 (g1.trans e1)
   obtain ⟨x3, r3, _, _⟩ := DataW.trod_int Tryz.underlying3 (g2.trans e2)
   obtain ⟨s4, r4, _, hz⟩ := DataW.trod_string Tryz.underlying9 (g3.trans e3)
   have p2 : c2 = Value.int .i64 x2 := (List.cons.inj r2).1
   have p3 : c3 = Value.int .i64 x3 := (List.cons.inj r3).1
   have p4 : c4 = Value.string s4 := (List.cons.inj r4).1
   have p0 : c0 = Value.int .i64 x0 := (Option.some.inj q0).trans (List.cons.inj r0).1
   have p1 : c1 = Value.int .i64 x1 := (Option.some.inj q1).trans (List.cons.inj r1).1
   refine ⟨⟨x0, x1, x2, x3, s4⟩, ?_, hz⟩
   rw [p0, p1, p2, p3, p4]
   rfl
end
/-- Are all names short? -/
def shortO (os : List OpD) : Bool := os.all fun o => decide (o.name.size ≤ 60)
end Go.Proofs.YtddglbjhhnipgaaGreatDoor

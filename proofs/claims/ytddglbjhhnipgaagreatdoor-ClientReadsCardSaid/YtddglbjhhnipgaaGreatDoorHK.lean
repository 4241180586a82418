import Derived.Test.YtddglbjhhnipgaaGreatDoorHJ
import Derived.Test.YtddglbjhhnipgaaGreatDoorGA
import Derived.Laws.BytesArg
import Derived.Deep.CutRange
namespace Go.Proofs.YtddglbjhhnipgaaGreatDoor
open Go Go.RowKit Go.ChangeShapes Go.WideShapes Go.Deep
open Go Go.RowKit
set_option linter.unusedVariables false
set_option linter.unusedSimpArgs false
set_option maxRecDepth 100000
set_option maxHeartbeats 8000000
/-! ### calls and answers that come in -/
section
variable {H : Type} {enc : TypeId × Value → H} {w : World} {base : Nat} {spare : Nat → Bool} {held : Bool}
theorem open_byteC (n : Nat) (cs : List Value) (y : DataW H × List MemPlace) (h : DataW.trod enc Tryz.prog w base spare held n 5 cs = some y) (hl : cs.length = 1) : ∃ x : Int, cs = fU x ∧ (Lit.int .u8 x).wf = true := by
 obtain ⟨x, e, _, hw⟩ := DataW.trod_int Tryz.underlying5 h
 exact ⟨x, e, hw⟩
theorem open_kidC (n : Nat) (cs : List Value) (y : DataW H × List MemPlace) (h : DataW.trod enc Tryz.prog w base spare held n 73 cs = some y) (hl : cs.length = 3) : ∃ x : KidD, cs = fK x ∧ x.name.size ≤ maxLen := by
 obtain ⟨m, hc⟩ := struct_cells Tryz.underlying73 (by kernel_rfl) h hl
 obtain ⟨v0, z0, h0, t0⟩ := hc 0 _ rfl
 obtain ⟨v1, z1, h1, t1⟩ := hc 1 _ rfl
 obtain ⟨v2, z2, h2, t2⟩ := hc 2 _ rfl
 obtain ⟨x0, e0, _, w0⟩ := DataW.trod_int Tryz.underlying3 t0
 obtain ⟨x1, e1, _, w1⟩ := DataW.trod_string Tryz.underlying9 t1
 obtain ⟨x2, e2, _, w2⟩ := DataW.trod_int Tryz.underlying3 t2
 simp only [List.cons.injEq, and_true] at e0 e1 e2
 subst e0 e1 e2
 match cs, hl with
 | [c0, c1, c2], _ =>
   simp at h0 h1 h2
   subst h0 h1 h2
   exact ⟨⟨x0, x1, x2⟩, rfl, w1⟩
theorem len_fUC (x : Int) : (fU x).length = 1 := rfl
theorem arg_call {v : Value} {d : DataW H} {ps : List MemPlace} {b0 : Nat} (hval : Value.okWide Tryz.prog w .any b0 24 v) (hd : DataW.Trod enc Tryz.prog w base spare held 24 v d ps) :
   ∃ (x : CallD) (bs : List Int), v = aggCa x ∧ x.text.size ≤ maxLen ∧ ArgRow w fU x.dao x.dn x.dc bs ∧ ∀ b ∈ bs, (Lit.int .u8 b).wf = true := by
 obtain ⟨cs, rfl, hsz⟩ := okWide_struct Tryz.underlying24 hval
 obtain ⟨fuel, hf⟩ := hd
 have hC : Tryz.prog.cellsOf 24 = 5 := by kernel_rfl
 rw [hC] at hsz
 obtain ⟨l⟩ := cs
 simp only [Value.cells] at hf
 have hl : l.length = 5 := by simpa using hsz
 obtain ⟨m, hc⟩ := struct_cells Tryz.underlying24 (by kernel_rfl) hf hl
 obtain ⟨v0, z0, h0, t0⟩ := hc 0 _ rfl
 obtain ⟨v1, z1, h1, t1⟩ := hc 1 _ rfl
 obtain ⟨v2, z2, h2, t2⟩ := hc 2 _ rfl
 obtain ⟨v3, z3, h3, t3⟩ := hc 3 _ rfl
 obtain ⟨v4, z4, h4, t4⟩ := hc 4 _ rfl
 obtain ⟨x0, e0, _, w0⟩ := DataW.trod_int Tryz.underlying3 t0
 obtain ⟨x1, e1, _, w1⟩ := DataW.trod_int Tryz.underlying3 t1
 obtain ⟨x2, e2, _, w2⟩ := DataW.trod_int Tryz.underlying3 t2
 obtain ⟨x3, e3, _, w3⟩ := DataW.trod_string Tryz.underlying9 t3
 obtain ⟨ao, k, cap, bs, e4, ar, hbs⟩ := arg_rowOf (f := fU) Tryz.underlying22 (by kernel_rfl) (by omega) len_fUC open_byteC t4
 simp only [List.cons.injEq, and_true] at e0 e1 e2 e3 e4
 subst e0 e1 e2 e3 e4
 match l, hl with
 | [c0, c1, c2, c3, c4], _ =>
   simp at h0 h1 h2 h3 h4
   subst h0 h1 h2 h3 h4
   exact ⟨⟨x0, x1, x2, x3, ao, k, cap⟩, bs, rfl, w3, ar, hbs⟩
theorem arg_ans {v : Value} {d : DataW H} {ps : List MemPlace} {b0 : Nat} (hval : Value.okWide Tryz.prog w .any b0 28 v) (hd : DataW.Trod enc Tryz.prog w base spare held 28 v d ps) :
   ∃ (x : RepD) (ks : List KidD) (bs : List Int), v = aggA x ∧ ArgRow w fK x.kao x.kn x.kc ks ∧ ArgRow w fU x.dao x.dn x.dc bs ∧ ∀ b ∈ bs, (Lit.int .u8 b).wf = true := by
 obtain ⟨cs, rfl, hsz⟩ := okWide_struct Tryz.underlying28 hval
 obtain ⟨fuel, hf⟩ := hd
 have hC : Tryz.prog.cellsOf 28 = 5 := by kernel_rfl
 rw [hC] at hsz
 obtain ⟨l⟩ := cs
 simp only [Value.cells] at hf
 have hl : l.length = 5 := by simpa using hsz
 obtain ⟨m, hc⟩ := struct_cells Tryz.underlying28 (by kernel_rfl) hf hl
 obtain ⟨v0, z0, h0, t0⟩ := hc 0 _ rfl
 obtain ⟨v1, z1, h1, t1⟩ := hc 1 _ rfl
 obtain ⟨v2, z2, h2, t2⟩ := hc 2 _ rfl
 obtain ⟨v3, z3, h3, t3⟩ := hc 3 _ rfl
 obtain ⟨v4, z4, h4, t4⟩ := hc 4 _ rfl
 obtain ⟨x0, e0, _, w0⟩ := DataW.trod_int Tryz.underlying25 t0
 obtain ⟨x1, e1, _, w1⟩ := DataW.trod_int Tryz.underlying3 t1
 obtain ⟨x2, e2, _, w2⟩ := DataW.trod_int Tryz.underlying3 t2
 obtain ⟨kao, kk, kcap, ks, e3, kr, _⟩ := arg_rowOf (f := fK) Tryz.underlying26 (by kernel_rfl) (by omega) len_fK open_kidC t3
 obtain ⟨ao, k, cap, bs, e4, ar, hbs⟩ := arg_rowOf (f := fU) Tryz.underlying22 (by kernel_rfl) (by omega) len_fUC open_byteC t4
 simp only [List.cons.injEq, and_true] at e0 e1 e2 e3 e4
 subst e0 e1 e2 e3 e4
 match l, hl with
 | [c0, c1, c2, c3, c4], _ =>
   simp at h0 h1 h2 h3 h4
   subst h0 h1 h2 h3 h4
   exact ⟨⟨x0, x1, x2, kao, kk, kcap, ao, k, cap, false⟩, ks, bs, rfl, kr, ar, hbs⟩
end
/-- Bytes that came in, as a string. -/
theorem conv_arg {W : World} {ao : Option Addr} {n cap : Nat} {bs : List Int} (ha : ArgRow W fU ao n cap bs) : ∃ s : ByteArray, ∀ {w : World}, (∀ a v, W.cell? a = some v → w.cell? a = some v) → (convert 22 9 (.slice ao n cap)).run Tryz.prog w = .ok (.string s) w := by
 rcases Nat.eq_zero_or_pos n with hn | hn
 · subst hn
   cases ao with
   | none => exact ⟨_, fun _ => run_convert_bytes_nil _ 22 5 Tryz.underlying22 Tryz.underlying5 0 cap 9 Tryz.underlying9⟩
   | some a =>
     refine ⟨ByteArray.empty, fun {w} _ => ?_⟩
     rw [run_convert_bytes_string w 22 9 5 (some a) 0 cap Tryz.underlying22 Tryz.underlying5 Tryz.underlying9, run_bytesToString w a 0 cap [] (by have := run_loadCells_list (P := Tryz.prog) w a [] (fun j v hj => by simp at hj); simpa using this)]
     rfl
 · obtain ⟨b, off, rfl, hc⟩ := ha.cells hn
   refine ⟨_, fun {w} hk => run_convert_bytes_arg w 22 5 Tryz.underlying22 Tryz.underlying5 b off n cap bs ha.len (fun i hi => ?_) 9 Tryz.underlying9⟩
   refine hk _ _ (hc i _ ?_)
   rw [get_fU, List.getElem?_eq_getElem (by rw [ha.len]; exact hi)]
   simp [List.getD, List.getElem?_eq_getElem (show i < bs.length by rw [ha.len]; exact hi)]
/-! ### what is held against each other -/
theorem kid_atC {w : World} {b off n cap k : Nat} {ks : List KidD} {a : KidD} (h : ArgRow w fK (some ⟨b, off, none⟩) n cap ks) (hk : ks[k]? = some a) :
   w.cell? ⟨b, off + k * 3, none⟩ = some (.int .i64 a.up) ∧ w.cell? ⟨b, off + k * 3 + 1, none⟩ = some (.string a.name) ∧ w.cell? ⟨b, off + k * 3 + 2, none⟩ = some (.int .i64 a.node) := by
 have h0 := (List.getElem?_eq_some_iff.1 hk).1
 have hl := h.len
 obtain ⟨b', off', e, hc⟩ := h.cells (by omega)
 simp only [Option.some.injEq, Addr.mk.injEq, and_true] at e
 obtain ⟨rfl, rfl⟩ := e
 refine ⟨?_, ?_, ?_⟩
 · have := hc (k * 3 + 0) (.int .i64 a.up) (by rw [get_flat len_fK ks k 0 a hk (by omega)]; rfl)
   simpa using this
 · have := hc (k * 3 + 1) (.string a.name) (by rw [get_flat len_fK ks k 1 a hk (by omega)]; rfl)
   rw [← Nat.add_assoc] at this; exact this
 · have := hc (k * 3 + 2) (.int .i64 a.node) (by rw [get_flat len_fK ks k 2 a hk (by omega)]; rfl)
   rw [← Nat.add_assoc] at this; exact this
theorem kid_neqC (a : KidD) (W : World) : (binOp BinOp.neq 73 (.agg #[.int .i64 a.up, .string a.name, .int .i64 a.node]) (.agg #[.int .i64 a.up, .string a.name, .int .i64 a.node])).run Tryz.prog W = .ok (.bool false) W := by
 go_simp
 try simp
theorem ev_neqC (a : EvD) (W : World) : (binOp BinOp.neq 41 (.agg #[.int .i64 a.what, .int .i64 a.client, .int .i64 a.call, .int .i64 a.version]) (.agg #[.int .i64 a.what, .int .i64 a.client, .int .i64 a.call, .int .i64 a.version])).run Tryz.prog W = .ok (.bool false) W := by
 go_simp
 try simp
theorem same_arg {W w : World} {l : List HProp} {ao : Option Addr} {n cap : Nat} {ks : List KidD} (hs : Sat w (oldH W :: l)) (ha : ArgRow W fK ao n cap ks) (hn : n ≤ 1000) :
   Calls Tryz.prog 68 #[.slice ao n cap, .slice ao n cap] w fun e w' => e = .returned (.bool true) ∧ Sat w' (oldH W :: l) ∧ Kp w w' := by
 have hn' : (n : Int) ≤ 1000 := by omega
 have hnn : ((n : Int) != (n : Int)) = false := by simp
 go_enter Tryz.func68, Tryz.ntmps68
 go_wp2_with fail
 go_loopw [5] (fun iv wr => ∃ i : Nat, i ≤ n ∧ iv = .int .i64 i ∧ Sat wr (oldH W :: l) ∧ Kp w wr) (fun iv _ => n - (intOf iv).toNat)
 case atStart => exact ⟨0, by omega, rfl, hs, Kp.refl w⟩
 case round =>
   obtain ⟨i, hin, rfl, h2, k2⟩ := hrel
   by_cases hlt : i < n
   case neg =>
     obtain rfl : n = i := by omega
     go_wp2_with fail
     go_ret
     exact ⟨rfl, h2, k2⟩
   obtain ⟨x, hx⟩ : ∃ x, ks[i]? = some x := ⟨ks[i]'(by rw [ha.len]; exact hlt), by simp⟩
   obtain ⟨b, off, rfl, hc⟩ := ha.cells (by omega)
   obtain ⟨x0, x1, x2⟩ := kid_atC (ha.old h2) hx
   have i0' : (0 : Int) ≤ (i : Int) := by omega
   have i1' : (i : Int) < (n : Int) := by omega
   have heq := fun W => kid_neqC x W
   clear hx hc
   go_upto_region 6 with (fail)
   go_quiet (fail)
   clear x0 x1 x2 heq
   go_wp2_with fail
   go_roundw
   case rel => exact ⟨i + 1, by omega, by go_num, h2.drewN _, k2.drewN _⟩
   case measure => simp [intOf]; omega
theorem same13 {W w : World} {l : List HProp} {r : RepD} {ks : List KidD} {bs : List Int} (hs : Sat w (oldH W :: l)) (hk : ArgRow W fK r.kao r.kn r.kc ks) (hb : ArgRow W fU r.dao r.dn r.dc bs) (hn : r.kn ≤ 1000) :
   Calls Tryz.prog 27 #[aggA r, aggA r] w fun e w' => e = .returned (.bool true) ∧ Sat w' (oldH W :: l) ∧ Kp w w' := by
 obtain ⟨s, hconv⟩ := conv_arg hb
 have HC := Lib.hid (fun (w : World) (l : List HProp) (h : Sat w (oldH W :: l)) => hconv (fun a v hc => h.oldCell hc))
 have hB := hs.alloc (.cells #[.int .i64 r.e, .int .i64 r.version, .int .i64 r.node, .slice r.kao r.kn r.kc, .slice r.dao r.dn r.dc] 28)
 have kB := (Kp.refl w).alloc (.cells #[.int .i64 r.e, .int .i64 r.version, .int .i64 r.node, .slice r.kao r.kn r.kc, .slice r.dao r.dn r.dc] 28)
 have hO := hB.alloc (.cells #[.int .i64 r.e, .int .i64 r.version, .int .i64 r.node, .slice r.kao r.kn r.kc, .slice r.dao r.dn r.dc] 28)
 have kO := kB.alloc (.cells #[.int .i64 r.e, .int .i64 r.version, .int .i64 r.node, .slice r.kao r.kn r.kc, .slice r.dao r.dn r.dc] 28)
 simp only [World.size_alloc] at hO
 clear hs hB kB hconv
 unfold aggA
 go_enter Tryz.func27, Tryz.ntmps27
 go_upto_region 1 with (fail)
 generalize World.alloc _ _ = w1 at hO kO ⊢
 generalize w.heap.size + 1 = O at hO ⊢
 generalize w.heap.size = B at hO ⊢
 have o3 := (hO).cell 3
 simp at o3
 have b3 := (hO.pull 1).cell 3
 simp at b3
 have hsa := same_arg (hO.pull 2) hk hn
 clear hk
 go_wp2_with fail
 refine hsa.mono ?_
 rintro e w2 ⟨rfl, h2, k2⟩
 clear hsa o3 b3
 have o0 := (h2.pull 1).cell 0
 have o1 := (h2.pull 1).cell 1
 have o2 := (h2.pull 1).cell 2
 have o3 := (h2.pull 1).cell 3
 have o4 := (h2.pull 1).cell 4
 simp at o0 o1 o2 o3 o4
 have b0 := (h2.pull 2).cell 0
 have b1 := (h2.pull 2).cell 1
 have b2 := (h2.pull 2).cell 2
 have b3 := (h2.pull 2).cell 3
 have b4 := (h2.pull 2).cell 4
 simp at b0 b1 b2 b3 b4
 have hcv := HC.out _ _ h2
 go_wp2_with fail
 go_ret
 exact ⟨rfl, (h2.pull 2).tail.pull 1 |>.tail, kO.trans k2⟩
theorem events_same {w : World} {l : List HProp} {v v' : Value} {ks : List EvD} (hs : Sat w (rowT fEv v 41 4 ks :: rowT fEv v' 41 4 ks :: l)) (hn : ks.length ≤ 1000) :
   Calls Tryz.prog 22 #[v, v'] w fun e w' => e = .returned (.bool true) ∧ Sat w' (rowT fEv v 41 4 ks :: rowT fEv v' 41 4 ks :: l) ∧ Kp w w' := by
 obtain ⟨ao, cap, rfl⟩ := hs.tLen
 obtain ⟨bo, bcap, rfl⟩ := (hs.pull 1).tLen
 obtain ⟨n, hn0⟩ : ∃ n, n = ks.length := ⟨_, rfl⟩
 rw [← hn0] at hs hn ⊢
 have HN := Lib.hid hn0
 have hn' : (n : Int) ≤ 1000 := by omega
 have hnn : ((n : Int) != (n : Int)) = false := by simp
 clear hn0
 go_enter Tryz.func22, Tryz.ntmps22
 go_wp2_with fail
 go_loopw [5] (fun iv wr => ∃ i : Nat, i ≤ n ∧ iv = .int .i64 i ∧ Sat wr (rowT fEv (.slice ao n cap) 41 4 ks :: rowT fEv (.slice bo n bcap) 41 4 ks :: l) ∧ Kp w wr) (fun iv _ => n - (intOf iv).toNat)
 case atStart => exact ⟨0, by omega, rfl, hs, Kp.refl w⟩
 case round =>
   obtain ⟨i, hin, rfl, h2, k2⟩ := hrel
   by_cases hlt : i < n
   case neg =>
     obtain rfl : n = i := by omega
     go_wp2_with fail
     go_ret
     exact ⟨rfl, h2, k2⟩
   obtain ⟨x, hx⟩ : ∃ x, ks[i]? = some x := ⟨ks[i]'(by rw [← HN.out]; exact hlt), by simp⟩
   rcases h2.tForm with ⟨hv, hp⟩ | ⟨g, off, cap', hv⟩
   · rw [hp] at hx; simp at hx
   simp only [Value.slice.injEq] at hv
   obtain ⟨rfl, -, rfl⟩ := hv
   rcases (h2.pull 1).tForm with ⟨hv, hp⟩ | ⟨g2, off2, cap2, hv⟩
   · rw [hp] at hx; simp at hx
   simp only [Value.slice.injEq] at hv
   obtain ⟨rfl, -, rfl⟩ := hv
   have x0 := h2.tCell len_fEv i 0 hx rfl
   have x1 := h2.tCell len_fEv i 1 hx rfl
   have x2 := h2.tCell len_fEv i 2 hx rfl
   have x3 := h2.tCell len_fEv i 3 hx rfl
   have y0 := (h2.pull 1).tCell len_fEv i 0 hx rfl
   have y1 := (h2.pull 1).tCell len_fEv i 1 hx rfl
   have y2 := (h2.pull 1).tCell len_fEv i 2 hx rfl
   have y3 := (h2.pull 1).tCell len_fEv i 3 hx rfl
   rw [Nat.add_zero] at x0 y0
   have hg := h2.rowBlock
   have hg2 := (h2.pull 1).rowBlock
   have i0' : (0 : Int) ≤ (i : Int) := by omega
   have i1' : (i : Int) < (n : Int) := by omega
   have heq := fun W => ev_neqC x W
   clear hx
   go_upto_region 6 with (fail)
   go_quiet (fail)
   clear x0 x1 x2 x3 y0 y1 y2 y3 heq
   go_wp2_with fail
   go_roundw
   case rel => exact ⟨i + 1, by omega, by go_num, h2.drewN _, k2.drewN _⟩
   case measure => simp [intOf]; omega
/-! ### a log of events, and who writes it -/
theorem enters_ofC {P : Program} {f : FuncId} {fn : Func} (hf : P.funcs[f]? = some fn) (hname : (fn.name == "runtime.NumGoroutine") = false) (hb : fn.body.isSome = true) : ∀ (args : Array Value) (w : World), (callFunc f args).run P w = .ok (.enter f args) w := by
 intro args w
 have h1 : fn.name ≠ "runtime.NumGoroutine" := by simpa using hname
 obtain ⟨c, hb⟩ := Option.isSome_iff_exists.1 hb
 simp [callFunc, hf, h1, hb, mark]
def logP (lb : Nat) (es : List EvD) : HProp := ex fun v => all [own lb (.cells #[v] 37 (0, 0)), rowT fEv v 41 4 es]
theorem logP_I {w : World} {l : List HProp} {lb : Nat} {es : List EvD} {v : Value} (hs : Sat w (own lb (.cells #[v] 37 (0, 0)) :: rowT fEv v 41 4 es :: l)) : Sat w (logP lb es :: l) := Sat.exI v (Sat.allI hs)
theorem logP_E {w : World} {l : List HProp} {lb : Nat} {es : List EvD} (hs : Sat w (logP lb es :: l)) : ∃ v, Sat w (own lb (.cells #[v] 37 (0, 0)) :: rowT fEv v 41 4 es :: l) := by
 obtain ⟨v, h⟩ := hs.exE
 exact ⟨v, h.allE⟩
theorem note_awake (lb : Nat) : NoteOk 58 #[.pointer (some ⟨lb, 0, none⟩)] (logP lb) (fun es e => es ++ [e]) (fun es => es.length ≤ 100000) where
 ent := enters_ofC Tryz.func58 (by kernel_rfl) (by kernel_rfl)
 call := by
   intro es ev w l hx hs
   obtain ⟨i1, hj, hy0, hy1, hy2⟩ := info_parts Tryz.infoEv
   obtain ⟨v0, h1⟩ := logP_E hs
   obtain ⟨vao, vcap, hv0⟩ := (h1.pull 1).tLen
   obtain ⟨n, hnn⟩ : ∃ n, es.length = n := ⟨_, rfl⟩
   rw [hnn] at hv0
   have hx' : n ≤ 100000 := by rw [← hnn]; exact hx
   subst hv0
   have HN := Lib.hid hnn
   have e2 : rowT fEv (.slice vao n vcap) 41 4 es = row (.slice vao n vcap) 41 4 n (es.flatMap fEv) := by unfold rowT; rw [hnn]
   rw [e2] at h1
   have hB := h1.alloc (.cells #[.int .i64 ev.what, .int .i64 ev.client, .int .i64 ev.call, .int .i64 ev.version] 41)
   have kB := (Kp.refl w).alloc (.cells #[.int .i64 ev.what, .int .i64 ev.client, .int .i64 ev.call, .int .i64 ev.version] 41)
   clear e2 hnn hx hs h1
   unfold aggEv
   go_enter Tryz.func58, Tryz.ntmps58
   go_upto_region 1 with (fail)
   generalize World.alloc _ _ = w1 at hB kB ⊢
   generalize w.heap.size = B at hB ⊢
   have b0 := hB.cell 0
   have b1 := hB.cell 1
   have b2 := hB.cell 2
   have b3 := hB.cell 3
   have l0 := (hB.pull 1).cell 0
   simp at b0 b1 b2 b3 l0
   have hll := (hB.pull 1).lt
   have hL := hB.alloc (.cells #[.int .i64 ev.what, .int .i64 ev.client, .int .i64 ev.call, .int .i64 ev.version] 41)
   have kL := kB.alloc (.cells #[.int .i64 ev.what, .int .i64 ev.client, .int .i64 ev.call, .int .i64 ev.version] 41)
   go_wp2_with (at_builtin; refine wpList_append_lit rfl (.tmp 3) (.tmp 5) 37 rfl 41 i1 _ 4 32 Tryz.underlying37 hj hy0 hy1 hy2 rfl (by decide) _ _ _ _ _ _ _ rfl (hL.pull 3) 1 1 rfl rfl rfl ?c3 ?c4 ?c5)
   case c3 => unfold maxLen; omega
   case c4 => omega
   case c5 =>
     intro v' w2 h2 k2
     rw [show n + 1 = es.length + 1 by rw [HN.out]] at h2
     have h3 := Sat.tSnoc (f := fEv) (x := ev) h2 rfl
     have l0 := (h3.pull 3).cell 0
     have lf := (h3.pull 3).free 0
     simp at l0
     have h4 := (h3.pull 3).set 0 v'
     have k4 := (kL.trans k2).setCell ⟨lb, 0, none⟩ v'
     obtain ⟨ao2, cap2, rfl⟩ := h3.tLen
     rw [List.length_append, List.length_singleton] at h4 k4
     go_wp2_with fail
     go_end0
     exact ⟨rfl, logP_I (((h4.pull 3).tail.pull 2).tail), k4⟩
theorem note_writes (lb : Nat) : NoteOk 20 #[.pointer (some ⟨lb, 0, none⟩)] (logP lb) (fun es e => es ++ [e]) (fun es => es.length ≤ 100000) where
 ent := enters_ofC Tryz.func20 (by kernel_rfl) (by kernel_rfl)
 call := by
   intro es ev w l hx hs
   obtain ⟨i1, hj, hy0, hy1, hy2⟩ := info_parts Tryz.infoEv
   obtain ⟨v0, h1⟩ := logP_E hs
   obtain ⟨vao, vcap, hv0⟩ := (h1.pull 1).tLen
   obtain ⟨n, hnn⟩ : ∃ n, es.length = n := ⟨_, rfl⟩
   rw [hnn] at hv0
   have hx' : n ≤ 100000 := by rw [← hnn]; exact hx
   subst hv0
   have HN := Lib.hid hnn
   have e2 : rowT fEv (.slice vao n vcap) 41 4 es = row (.slice vao n vcap) 41 4 n (es.flatMap fEv) := by unfold rowT; rw [hnn]
   rw [e2] at h1
   have hB := h1.alloc (.cells #[.int .i64 ev.what, .int .i64 ev.client, .int .i64 ev.call, .int .i64 ev.version] 41)
   have kB := (Kp.refl w).alloc (.cells #[.int .i64 ev.what, .int .i64 ev.client, .int .i64 ev.call, .int .i64 ev.version] 41)
   clear e2 hnn hx hs h1
   unfold aggEv
   go_enter Tryz.func20, Tryz.ntmps20
   go_upto_region 1 with (fail)
   generalize World.alloc _ _ = w1 at hB kB ⊢
   generalize w.heap.size = B at hB ⊢
   have b0 := hB.cell 0
   have b1 := hB.cell 1
   have b2 := hB.cell 2
   have b3 := hB.cell 3
   have l0 := (hB.pull 1).cell 0
   simp at b0 b1 b2 b3 l0
   have hll := (hB.pull 1).lt
   have hL := hB.alloc (.cells #[.int .i64 ev.what, .int .i64 ev.client, .int .i64 ev.call, .int .i64 ev.version] 41)
   have kL := kB.alloc (.cells #[.int .i64 ev.what, .int .i64 ev.client, .int .i64 ev.call, .int .i64 ev.version] 41)
   go_wp2_with (at_builtin; refine wpList_append_lit rfl (.tmp 3) (.tmp 5) 37 rfl 41 i1 _ 4 32 Tryz.underlying37 hj hy0 hy1 hy2 rfl (by decide) _ _ _ _ _ _ _ rfl (hL.pull 3) 1 1 rfl rfl rfl ?c3 ?c4 ?c5)
   case c3 => unfold maxLen; omega
   case c4 => omega
   case c5 =>
     intro v' w2 h2 k2
     rw [show n + 1 = es.length + 1 by rw [HN.out]] at h2
     have h3 := Sat.tSnoc (f := fEv) (x := ev) h2 rfl
     have l0 := (h3.pull 3).cell 0
     have lf := (h3.pull 3).free 0
     simp at l0
     have h4 := (h3.pull 3).set 0 v'
     have k4 := (kL.trans k2).setCell ⟨lb, 0, none⟩ v'
     obtain ⟨ao2, cap2, rfl⟩ := h3.tLen
     rw [List.length_append, List.length_singleton] at h4 k4
     go_wp2_with fail
     go_end0
     exact ⟨rfl, logP_I (((h4.pull 3).tail.pull 2).tail), k4⟩
theorem note_reads (lb : Nat) : NoteOk 56 #[.pointer (some ⟨lb, 0, none⟩)] (logP lb) (fun es e => es ++ [e]) (fun es => es.length ≤ 100000) where
 ent := enters_ofC Tryz.func56 (by kernel_rfl) (by kernel_rfl)
 call := by
   intro es ev w l hx hs
   obtain ⟨i1, hj, hy0, hy1, hy2⟩ := info_parts Tryz.infoEv
   obtain ⟨v0, h1⟩ := logP_E hs
   obtain ⟨vao, vcap, hv0⟩ := (h1.pull 1).tLen
   obtain ⟨n, hnn⟩ : ∃ n, es.length = n := ⟨_, rfl⟩
   rw [hnn] at hv0
   have hx' : n ≤ 100000 := by rw [← hnn]; exact hx
   subst hv0
   have HN := Lib.hid hnn
   have e2 : rowT fEv (.slice vao n vcap) 41 4 es = row (.slice vao n vcap) 41 4 n (es.flatMap fEv) := by unfold rowT; rw [hnn]
   rw [e2] at h1
   have hB := h1.alloc (.cells #[.int .i64 ev.what, .int .i64 ev.client, .int .i64 ev.call, .int .i64 ev.version] 41)
   have kB := (Kp.refl w).alloc (.cells #[.int .i64 ev.what, .int .i64 ev.client, .int .i64 ev.call, .int .i64 ev.version] 41)
   clear e2 hnn hx hs h1
   unfold aggEv
   go_enter Tryz.func56, Tryz.ntmps56
   go_upto_region 1 with (fail)
   generalize World.alloc _ _ = w1 at hB kB ⊢
   generalize w.heap.size = B at hB ⊢
   have b0 := hB.cell 0
   have b1 := hB.cell 1
   have b2 := hB.cell 2
   have b3 := hB.cell 3
   have l0 := (hB.pull 1).cell 0
   simp at b0 b1 b2 b3 l0
   have hll := (hB.pull 1).lt
   have hL := hB.alloc (.cells #[.int .i64 ev.what, .int .i64 ev.client, .int .i64 ev.call, .int .i64 ev.version] 41)
   have kL := kB.alloc (.cells #[.int .i64 ev.what, .int .i64 ev.client, .int .i64 ev.call, .int .i64 ev.version] 41)
   go_wp2_with (at_builtin; refine wpList_append_lit rfl (.tmp 3) (.tmp 5) 37 rfl 41 i1 _ 4 32 Tryz.underlying37 hj hy0 hy1 hy2 rfl (by decide) _ _ _ _ _ _ _ rfl (hL.pull 3) 1 1 rfl rfl rfl ?c3 ?c4 ?c5)
   case c3 => unfold maxLen; omega
   case c4 => omega
   case c5 =>
     intro v' w2 h2 k2
     rw [show n + 1 = es.length + 1 by rw [HN.out]] at h2
     have h3 := Sat.tSnoc (f := fEv) (x := ev) h2 rfl
     have l0 := (h3.pull 3).cell 0
     have lf := (h3.pull 3).free 0
     simp at l0
     have h4 := (h3.pull 3).set 0 v'
     have k4 := (kL.trans k2).setCell ⟨lb, 0, none⟩ v'
     obtain ⟨ao2, cap2, rfl⟩ := h3.tLen
     rw [List.length_append, List.length_singleton] at h4 k4
     go_wp2_with fail
     go_end0
     exact ⟨rfl, logP_I (((h4.pull 3).tail.pull 2).tail), k4⟩
end Go.Proofs.YtddglbjhhnipgaaGreatDoor

import Derived.Test.YtddglbjhhnipgaaGreatDoorHJ
import Derived.Test.YtddglbjhhnipgaaGreatDoorGA
import Derived.Laws.BytesArg
import Derived.Deep.CutRange
import Derived.LoopN
namespace Go.Proofs.YtddglbjhhnipgaaGreatDoor
open Go Go.RowKit Go.ChangeShapes Go.WideShapes Go.Deep
open Go Go.RowKit
set_option linter.unusedVariables false
set_option linter.unusedSimpArgs false
set_option maxRecDepth 100000
set_option maxHeartbeats 8000000
/-! ### calls and answers that come in -/
section
variable {H : Type} {enc : TypeId × Value → H} {w : World} {base : Nat} {spare : Nat → Bool} {held : Bool}
theorem open_byteC (n : Nat) (cs : List Value) (y : DataW H × List MemPlace) (h : DataW.trod enc Tryz.prog w base spare held n 5 cs = some y) (hl : cs.length = 1) : ∃ x : Int, cs = fU x ∧ (Lit.int .u8 x).wf = true := by
 obtain ⟨x, e, _, hw⟩ := DataW.trod_int Tryz.underlying5 h
 exact ⟨x, e, hw⟩
theorem open_kidC (n : Nat) (cs : List Value) (y : DataW H × List MemPlace) (h : DataW.trod enc Tryz.prog w base spare held n 73 cs = some y) (hl : cs.length = 3) : ∃ x : KidD, cs = fK x ∧ x.name.size ≤ maxLen := by
 obtain ⟨m, hc⟩ := struct_cells Tryz.underlying73 (by kernel_rfl) h hl
 obtain ⟨v0, z0, h0, t0⟩ := hc 0 _ rfl
 obtain ⟨v1, z1, h1, t1⟩ := hc 1 _ rfl
 obtain ⟨v2, z2, h2, t2⟩ := hc 2 _ rfl
 obtain ⟨x0, e0, _, w0⟩ := DataW.trod_int Tryz.underlying3 t0
 obtain ⟨x1, e1, _, w1⟩ := DataW.trod_string Tryz.underlying9 t1
 obtain ⟨x2, e2, _, w2⟩ := DataW.trod_int Tryz.underlying3 t2
 simp only [List.cons.injEq, and_true] at e0 e1 e2
 subst e0 e1 e2
 match cs, hl with
 | [c0, c1, c2], _ =>
   simp at h0 h1 h2
   subst h0 h1 h2
   exact ⟨⟨x0, x1, x2⟩, rfl, w1⟩
theorem len_fUC (x : Int) : (fU x).length = 1 := rfl
theorem arg_call {v : Value} {d : DataW H} {ps : List MemPlace} {b0 : Nat} (hval : Value.okWide Tryz.prog w .any b0 24 v) (hd : DataW.Trod enc Tryz.prog w base spare held 24 v d ps) :
   ∃ (x : CallD) (bs : List Int), v = aggCa x ∧ x.text.size ≤ maxLen ∧ ArgRow w fU x.dao x.dn x.dc bs ∧ ∀ b ∈ bs, (Lit.int .u8 b).wf = true := by
 obtain ⟨cs, rfl, hsz⟩ := okWide_struct Tryz.underlying24 hval
 obtain ⟨fuel, hf⟩ := hd
 have hC : Tryz.prog.cellsOf 24 = 5 := by kernel_rfl
 rw [hC] at hsz
 obtain ⟨l⟩ := cs
 simp only [Value.cells] at hf
 have hl : l.length = 5 := by simpa using hsz
 obtain ⟨m, hc⟩ := struct_cells Tryz.underlying24 (by kernel_rfl) hf hl
 obtain ⟨v0, z0, h0, t0⟩ := hc 0 _ rfl
 obtain ⟨v1, z1, h1, t1⟩ := hc 1 _ rfl
 obtain ⟨v2, z2, h2, t2⟩ := hc 2 _ rfl
 obtain ⟨v3, z3, h3, t3⟩ := hc 3 _ rfl
 obtain ⟨v4, z4, h4, t4⟩ := hc 4 _ rfl
 obtain ⟨x0, e0, _, w0⟩ := DataW.trod_int Tryz.underlying3 t0
 obtain ⟨x1, e1, _, w1⟩ := DataW.trod_int Tryz.underlying3 t1
 obtain ⟨x2, e2, _, w2⟩ := DataW.trod_int Tryz.underlying3 t2
 obtain ⟨x3, e3, _, w3⟩ := DataW.trod_string Tryz.underlying9 t3
 obtain ⟨ao, k, cap, bs, e4, ar, hbs⟩ := arg_rowOf (f := fU) Tryz.underlying22 (by kernel_rfl) (by omega) len_fUC open_byteC t4
 simp only [List.cons.injEq, and_true] at e0 e1 e2 e3 e4
 subst e0 e1 e2 e3 e4
 match l, hl with
 | [c0, c1, c2, c3, c4], _ =>
   simp at h0 h1 h2 h3 h4
   subst h0 h1 h2 h3 h4
   exact ⟨⟨x0, x1, x2, x3, ao, k, cap⟩, bs, rfl, w3, ar, hbs⟩
theorem arg_ans {v : Value} {d : DataW H} {ps : List MemPlace} {b0 : Nat} (hval : Value.okWide Tryz.prog w .any b0 28 v) (hd : DataW.Trod enc Tryz.prog w base spare held 28 v d ps) :
   ∃ (x : RepD) (ks : List KidD) (bs : List Int), v = aggA x ∧ ArgRow w fK x.kao x.kn x.kc ks ∧ ArgRow w fU x.dao x.dn x.dc bs ∧ ∀ b ∈ bs, (Lit.int .u8 b).wf = true := by
 obtain ⟨cs, rfl, hsz⟩ := okWide_struct Tryz.underlying28 hval
 obtain ⟨fuel, hf⟩ := hd
 have hC : Tryz.prog.cellsOf 28 = 5 := by kernel_rfl
 rw [hC] at hsz
 obtain ⟨l⟩ := cs
 simp only [Value.cells] at hf
 have hl : l.length = 5 := by simpa using hsz
 obtain ⟨m, hc⟩ := struct_cells Tryz.underlying28 (by kernel_rfl) hf hl
 obtain ⟨v0, z0, h0, t0⟩ := hc 0 _ rfl
 obtain ⟨v1, z1, h1, t1⟩ := hc 1 _ rfl
 obtain ⟨v2, z2, h2, t2⟩ := hc 2 _ rfl
 obtain ⟨v3, z3, h3, t3⟩ := hc 3 _ rfl
 obtain ⟨v4, z4, h4, t4⟩ := hc 4 _ rfl
 obtain ⟨x0, e0, _, w0⟩ := DataW.trod_int Tryz.underlying25 t0
 obtain ⟨x1, e1, _, w1⟩ := DataW.trod_int Tryz.underlying3 t1
 obtain ⟨x2, e2, _, w2⟩ := DataW.trod_int Tryz.underlying3 t2
 obtain ⟨kao, kk, kcap, ks, e3, kr, _⟩ := arg_rowOf (f := fK) Tryz.underlying26 (by kernel_rfl) (by omega) len_fK open_kidC t3
 obtain ⟨ao, k, cap, bs, e4, ar, hbs⟩ := arg_rowOf (f := fU) Tryz.underlying22 (by kernel_rfl) (by omega) len_fUC open_byteC t4
 simp only [List.cons.injEq, and_true] at e0 e1 e2 e3 e4
 subst e0 e1 e2 e3 e4
 match l, hl with
 | [c0, c1, c2, c3, c4], _ =>
   simp at h0 h1 h2 h3 h4
   subst h0 h1 h2 h3 h4
   exact ⟨⟨x0, x1, x2, kao, kk, kcap, ao, k, cap, false⟩, ks, bs, rfl, kr, ar, hbs⟩
end
/-- Bytes that came in, as a string. -/
theorem conv_arg {W : World} {ao : Option Addr} {n cap : Nat} {bs : List Int} (ha : ArgRow W fU ao n cap bs) : ∃ s : ByteArray, ∀ {w : World}, (∀ a v, W.cell? a = some v → w.cell? a = some v) → (convert 22 9 (.slice ao n cap)).run Tryz.prog w = .ok (.string s) w := by
 rcases Nat.eq_zero_or_pos n with hn | hn
 · subst hn
   cases ao with
   | none => exact ⟨_, fun _ => run_convert_bytes_nil _ 22 5 Tryz.underlying22 Tryz.underlying5 0 cap 9 Tryz.underlying9⟩
   | some a =>
     refine ⟨ByteArray.empty, fun {w} _ => ?_⟩
     rw [run_convert_bytes_string w 22 9 5 (some a) 0 cap Tryz.underlying22 Tryz.underlying5 Tryz.underlying9, run_bytesToString w a 0 cap [] (by have := run_loadCells_list (P := Tryz.prog) w a [] (fun j v hj => by simp at hj); simpa using this)]
     rfl
 · obtain ⟨b, off, rfl, hc⟩ := ha.cells hn
   refine ⟨_, fun {w} hk => run_convert_bytes_arg w 22 5 Tryz.underlying22 Tryz.underlying5 b off n cap bs ha.len (fun i hi => ?_) 9 Tryz.underlying9⟩
   refine hk _ _ (hc i _ ?_)
   rw [get_fU, List.getElem?_eq_getElem (by rw [ha.len]; exact hi)]
   simp [List.getD, List.getElem?_eq_getElem (show i < bs.length by rw [ha.len]; exact hi)]
/-! ### what is held against each other -/
theorem kid_atC {w : World} {b off n cap k : Nat} {ks : List KidD} {a : KidD} (h : ArgRow w fK (some ⟨b, off, none⟩) n cap ks) (hk : ks[k]? = some a) :
   w.cell? ⟨b, off + k * 3, none⟩ = some (.int .i64 a.up) ∧ w.cell? ⟨b, off + k * 3 + 1, none⟩ = some (.string a.name) ∧ w.cell? ⟨b, off + k * 3 + 2, none⟩ = some (.int .i64 a.node) := by
 have h0 := (List.getElem?_eq_some_iff.1 hk).1
 have hl := h.len
 obtain ⟨b', off', e, hc⟩ := h.cells (by omega)
 simp only [Option.some.injEq, Addr.mk.injEq, and_true] at e
 obtain ⟨rfl, rfl⟩ := e
 refine ⟨?_, ?_, ?_⟩
 · have := hc (k * 3 + 0) (.int .i64 a.up) (by rw [get_flat len_fK ks k 0 a hk (by omega)]; rfl)
   simpa using this
 · have := hc (k * 3 + 1) (.string a.name) (by rw [get_flat len_fK ks k 1 a hk (by omega)]; rfl)
   rw [← Nat.add_assoc] at this; exact this
 · have := hc (k * 3 + 2) (.int .i64 a.node) (by rw [get_flat len_fK ks k 2 a hk (by omega)]; rfl)
   rw [← Nat.add_assoc] at this; exact this
theorem kid_neqC (a : KidD) (W : World) : (binOp BinOp.neq 73 (.agg #[.int .i64 a.up, .string a.name, .int .i64 a.node]) (.agg #[.int .i64 a.up, .string a.name, .int .i64 a.node])).run Tryz.prog W = .ok (.bool false) W := by
 go_simp
 try simp
theorem ev_neqC (a : EvD) (W : World) : (binOp BinOp.neq 41 (.agg #[.int .i64 a.what, .int .i64 a.client, .int .i64 a.call, .int .i64 a.version]) (.agg #[.int .i64 a.what, .int .i64 a.client, .int .i64 a.call, .int .i64 a.version])).run Tryz.prog W = .ok (.bool false) W := by
 go_simp
 try simp
theorem same_arg {W w : World} {l : List HProp} {ao : Option Addr} {n cap : Nat} {ks : List KidD} (hs : Sat w (oldH W :: l)) (ha : ArgRow W fK ao n cap ks) (hn : n ≤ 1000) :
   Calls Tryz.prog 68 #[.slice ao n cap, .slice ao n cap] w fun e w' => e = .returned (.bool true) ∧ Sat w' (oldH W :: l) ∧ Kp w w' := by
 have hn' : (n : Int) ≤ 1000 := by omega
 have hnn : ((n : Int) != (n : Int)) = false := by simp
 go_enter Tryz.func68, Tryz.ntmps68
 go_wp2_with fail
 go_loopw [5] (fun iv wr => ∃ i : Nat, i ≤ n ∧ iv = .int .i64 i ∧ Sat wr (oldH W :: l) ∧ Kp w wr) (fun iv _ => n - (intOf iv).toNat)
 case atStart => exact ⟨0, by omega, rfl, hs, Kp.refl w⟩
 case round =>
   obtain ⟨i, hin, rfl, h2, k2⟩ := hrel
   by_cases hlt : i < n
   case neg =>
     obtain rfl : n = i := by omega
     go_wp2_with fail
     go_ret
     exact ⟨rfl, h2, k2⟩
   obtain ⟨x, hx⟩ : ∃ x, ks[i]? = some x := ⟨ks[i]'(by rw [ha.len]; exact hlt), by simp⟩
   obtain ⟨b, off, rfl, hc⟩ := ha.cells (by omega)
   obtain ⟨x0, x1, x2⟩ := kid_atC (ha.old h2) hx
   have i0' : (0 : Int) ≤ (i : Int) := by omega
   have i1' : (i : Int) < (n : Int) := by omega
   have heq := fun W => kid_neqC x W
   clear hx hc
   go_upto_region 6 with (fail)
   go_quiet (fail)
   clear x0 x1 x2 heq
   go_wp2_with fail
   go_roundw
   case rel => exact ⟨i + 1, by omega, by go_num, h2.drewN _, k2.drewN _⟩
   case measure => simp [intOf]; omega
theorem same13 {W w : World} {l : List HProp} {r : RepD} {ks : List KidD} {bs : List Int} (hs : Sat w (oldH W :: l)) (hk : ArgRow W fK r.kao r.kn r.kc ks) (hb : ArgRow W fU r.dao r.dn r.dc bs) (hn : r.kn ≤ 1000) :
   Calls Tryz.prog 27 #[aggA r, aggA r] w fun e w' => e = .returned (.bool true) ∧ Sat w' (oldH W :: l) ∧ Kp w w' := by
 obtain ⟨s, hconv⟩ := conv_arg hb
 have HC := Lib.hid (fun (w : World) (l : List HProp) (h : Sat w (oldH W :: l)) => hconv (fun a v hc => h.oldCell hc))
 have hB := hs.alloc (.cells #[.int .i64 r.e, .int .i64 r.version, .int .i64 r.node, .slice r.kao r.kn r.kc, .slice r.dao r.dn r.dc] 28)
 have kB := (Kp.refl w).alloc (.cells #[.int .i64 r.e, .int .i64 r.version, .int .i64 r.node, .slice r.kao r.kn r.kc, .slice r.dao r.dn r.dc] 28)
 have hO := hB.alloc (.cells #[.int .i64 r.e, .int .i64 r.version, .int .i64 r.node, .slice r.kao r.kn r.kc, .slice r.dao r.dn r.dc] 28)
 have kO := kB.alloc (.cells #[.int .i64 r.e, .int .i64 r.version, .int .i64 r.node, .slice r.kao r.kn r.kc, .slice r.dao r.dn r.dc] 28)
 simp only [World.size_alloc] at hO
 clear hs hB kB hconv
 unfold aggA
 go_enter Tryz.func27, Tryz.ntmps27
 go_upto_region 1 with (fail)
 generalize World.alloc _ _ = w1 at hO kO ⊢
 generalize w.heap.size + 1 = O at hO ⊢
 generalize w.heap.size = B at hO ⊢
 have o3 := (hO).cell 3
 simp at o3
 have b3 := (hO.pull 1).cell 3
 simp at b3
 have hsa := same_arg (hO.pull 2) hk hn
 clear hk
 go_wp2_with fail
 refine hsa.mono ?_
 rintro e w2 ⟨rfl, h2, k2⟩
 clear hsa o3 b3
 have o0 := (h2.pull 1).cell 0
 have o1 := (h2.pull 1).cell 1
 have o2 := (h2.pull 1).cell 2
 have o3 := (h2.pull 1).cell 3
 have o4 := (h2.pull 1).cell 4
 simp at o0 o1 o2 o3 o4
 have b0 := (h2.pull 2).cell 0
 have b1 := (h2.pull 2).cell 1
 have b2 := (h2.pull 2).cell 2
 have b3 := (h2.pull 2).cell 3
 have b4 := (h2.pull 2).cell 4
 simp at b0 b1 b2 b3 b4
 have hcv := HC.out _ _ h2
 go_wp2_with fail
 go_ret
 exact ⟨rfl, (h2.pull 2).tail.pull 1 |>.tail, kO.trans k2⟩
theorem events_same {w : World} {l : List HProp} {v v' : Value} {ks : List EvD} (hs : Sat w (rowT fEv v 41 4 ks :: rowT fEv v' 41 4 ks :: l)) (hn : ks.length ≤ 1000) :
   Calls Tryz.prog 22 #[v, v'] w fun e w' => e = .returned (.bool true) ∧ Sat w' (rowT fEv v 41 4 ks :: rowT fEv v' 41 4 ks :: l) ∧ Kp w w' := by
 obtain ⟨ao, cap, rfl⟩ := hs.tLen
 obtain ⟨bo, bcap, rfl⟩ := (hs.pull 1).tLen
 obtain ⟨n, hn0⟩ : ∃ n, n = ks.length := ⟨_, rfl⟩
 rw [← hn0] at hs hn ⊢
 have HN := Lib.hid hn0
 have hn' : (n : Int) ≤ 1000 := by omega
 have hnn : ((n : Int) != (n : Int)) = false := by simp
 clear hn0
 go_enter Tryz.func22, Tryz.ntmps22
 go_wp2_with fail
 go_loopw [5] (fun iv wr => ∃ i : Nat, i ≤ n ∧ iv = .int .i64 i ∧ Sat wr (rowT fEv (.slice ao n cap) 41 4 ks :: rowT fEv (.slice bo n bcap) 41 4 ks :: l) ∧ Kp w wr) (fun iv _ => n - (intOf iv).toNat)
 case atStart => exact ⟨0, by omega, rfl, hs, Kp.refl w⟩
 case round =>
   obtain ⟨i, hin, rfl, h2, k2⟩ := hrel
   by_cases hlt : i < n
   case neg =>
     obtain rfl : n = i := by omega
     go_wp2_with fail
     go_ret
     exact ⟨rfl, h2, k2⟩
   obtain ⟨x, hx⟩ : ∃ x, ks[i]? = some x := ⟨ks[i]'(by rw [← HN.out]; exact hlt), by simp⟩
   rcases h2.tForm with ⟨hv, hp⟩ | ⟨g, off, cap', hv⟩
   · rw [hp] at hx; simp at hx
   simp only [Value.slice.injEq] at hv
   obtain ⟨rfl, -, rfl⟩ := hv
   rcases (h2.pull 1).tForm with ⟨hv, hp⟩ | ⟨g2, off2, cap2, hv⟩
   · rw [hp] at hx; simp at hx
   simp only [Value.slice.injEq] at hv
   obtain ⟨rfl, -, rfl⟩ := hv
   have x0 := h2.tCell len_fEv i 0 hx rfl
   have x1 := h2.tCell len_fEv i 1 hx rfl
   have x2 := h2.tCell len_fEv i 2 hx rfl
   have x3 := h2.tCell len_fEv i 3 hx rfl
   have y0 := (h2.pull 1).tCell len_fEv i 0 hx rfl
   have y1 := (h2.pull 1).tCell len_fEv i 1 hx rfl
   have y2 := (h2.pull 1).tCell len_fEv i 2 hx rfl
   have y3 := (h2.pull 1).tCell len_fEv i 3 hx rfl
   rw [Nat.add_zero] at x0 y0
   have hg := h2.rowBlock
   have hg2 := (h2.pull 1).rowBlock
   have i0' : (0 : Int) ≤ (i : Int) := by omega
   have i1' : (i : Int) < (n : Int) := by omega
   have heq := fun W => ev_neqC x W
   clear hx
   go_upto_region 6 with (fail)
   go_quiet (fail)
   clear x0 x1 x2 x3 y0 y1 y2 y3 heq
   go_wp2_with fail
   go_roundw
   case rel => exact ⟨i + 1, by omega, by go_num, h2.drewN _, k2.drewN _⟩
   case measure => simp [intOf]; omega
/-! ### a log of events, and who writes it -/
theorem enters_ofC {P : Program} {f : FuncId} {fn : Func} (hf : P.funcs[f]? = some fn) (hname : (fn.name == "runtime.NumGoroutine") = false) (hb : fn.body.isSome = true) : ∀ (args : Array Value) (w : World), (callFunc f args).run P w = .ok (.enter f args) w := by
 intro args w
 have h1 : fn.name ≠ "runtime.NumGoroutine" := by simpa using hname
 obtain ⟨c, hb⟩ := Option.isSome_iff_exists.1 hb
 simp [callFunc, hf, h1, hb, mark]
def logP (lb : Nat) (es : List EvD) : HProp := ex fun v => all [own lb (.cells #[v] 37 (0, 0)), rowT fEv v 41 4 es]
theorem logP_I {w : World} {l : List HProp} {lb : Nat} {es : List EvD} {v : Value} (hs : Sat w (own lb (.cells #[v] 37 (0, 0)) :: rowT fEv v 41 4 es :: l)) : Sat w (logP lb es :: l) := Sat.exI v (Sat.allI hs)
theorem logP_E {w : World} {l : List HProp} {lb : Nat} {es : List EvD} (hs : Sat w (logP lb es :: l)) : ∃ v, Sat w (own lb (.cells #[v] 37 (0, 0)) :: rowT fEv v 41 4 es :: l) := by
 obtain ⟨v, h⟩ := hs.exE
 exact ⟨v, h.allE⟩
theorem note_awake (lb : Nat) : NoteOk 58 #[.pointer (some ⟨lb, 0, none⟩)] (logP lb) (fun es e => es ++ [e]) (fun es => es.length ≤ 100000) where
 ent := enters_ofC Tryz.func58 (by kernel_rfl) (by kernel_rfl)
 call := by
   intro es ev w l hx hs
   obtain ⟨i1, hj, hy0, hy1, hy2⟩ := info_parts Tryz.infoEv
   obtain ⟨v0, h1⟩ := logP_E hs
   obtain ⟨vao, vcap, hv0⟩ := (h1.pull 1).tLen
   obtain ⟨n, hnn⟩ : ∃ n, es.length = n := ⟨_, rfl⟩
   rw [hnn] at hv0
   have hx' : n ≤ 100000 := by rw [← hnn]; exact hx
   subst hv0
   have HN := Lib.hid hnn
   have e2 : rowT fEv (.slice vao n vcap) 41 4 es = row (.slice vao n vcap) 41 4 n (es.flatMap fEv) := by unfold rowT; rw [hnn]
   rw [e2] at h1
   have hB := h1.alloc (.cells #[.int .i64 ev.what, .int .i64 ev.client, .int .i64 ev.call, .int .i64 ev.version] 41)
   have kB := (Kp.refl w).alloc (.cells #[.int .i64 ev.what, .int .i64 ev.client, .int .i64 ev.call, .int .i64 ev.version] 41)
   clear e2 hnn hx hs h1
   unfold aggEv
   go_enter Tryz.func58, Tryz.ntmps58
   go_upto_region 1 with (fail)
   generalize World.alloc _ _ = w1 at hB kB ⊢
   generalize w.heap.size = B at hB ⊢
   have b0 := hB.cell 0
   have b1 := hB.cell 1
   have b2 := hB.cell 2
   have b3 := hB.cell 3
   have l0 := (hB.pull 1).cell 0
   simp at b0 b1 b2 b3 l0
   have hll := (hB.pull 1).lt
   have hL := hB.alloc (.cells #[.int .i64 ev.what, .int .i64 ev.client, .int .i64 ev.call, .int .i64 ev.version] 41)
   have kL := kB.alloc (.cells #[.int .i64 ev.what, .int .i64 ev.client, .int .i64 ev.call, .int .i64 ev.version] 41)
   go_wp2_with (at_builtin; refine wpList_append_lit rfl (.tmp 3) (.tmp 5) 37 rfl 41 i1 _ 4 32 Tryz.underlying37 hj hy0 hy1 hy2 rfl (by decide) _ _ _ _ _ _ _ rfl (hL.pull 3) 1 1 rfl rfl rfl ?c3 ?c4 ?c5)
   case c3 => unfold maxLen; omega
   case c4 => omega
   case c5 =>
     intro v' w2 h2 k2
     rw [show n + 1 = es.length + 1 by rw [HN.out]] at h2
     have h3 := Sat.tSnoc (f := fEv) (x := ev) h2 rfl
     have l0 := (h3.pull 3).cell 0
     have lf := (h3.pull 3).free 0
     simp at l0
     have h4 := (h3.pull 3).set 0 v'
     have k4 := (kL.trans k2).setCell ⟨lb, 0, none⟩ v'
     obtain ⟨ao2, cap2, rfl⟩ := h3.tLen
     rw [List.length_append, List.length_singleton] at h4 k4
     go_wp2_with fail
     go_end0
     exact ⟨rfl, logP_I (((h4.pull 3).tail.pull 2).tail), k4⟩
theorem note_writes (lb : Nat) : NoteOk 20 #[.pointer (some ⟨lb, 0, none⟩)] (logP lb) (fun es e => es ++ [e]) (fun es => es.length ≤ 100000) where
 ent := enters_ofC Tryz.func20 (by kernel_rfl) (by kernel_rfl)
 call := by
   intro es ev w l hx hs
   obtain ⟨i1, hj, hy0, hy1, hy2⟩ := info_parts Tryz.infoEv
   obtain ⟨v0, h1⟩ := logP_E hs
   obtain ⟨vao, vcap, hv0⟩ := (h1.pull 1).tLen
   obtain ⟨n, hnn⟩ : ∃ n, es.length = n := ⟨_, rfl⟩
   rw [hnn] at hv0
   have hx' : n ≤ 100000 := by rw [← hnn]; exact hx
   subst hv0
   have HN := Lib.hid hnn
   have e2 : rowT fEv (.slice vao n vcap) 41 4 es = row (.slice vao n vcap) 41 4 n (es.flatMap fEv) := by unfold rowT; rw [hnn]
   rw [e2] at h1
   have hB := h1.alloc (.cells #[.int .i64 ev.what, .int .i64 ev.client, .int .i64 ev.call, .int .i64 ev.version] 41)
   have kB := (Kp.refl w).alloc (.cells #[.int .i64 ev.what, .int .i64 ev.client, .int .i64 ev.call, .int .i64 ev.version] 41)
   clear e2 hnn hx hs h1
   unfold aggEv
   go_enter Tryz.func20, Tryz.ntmps20
   go_upto_region 1 with (fail)
   generalize World.alloc _ _ = w1 at hB kB ⊢
   generalize w.heap.size = B at hB ⊢
   have b0 := hB.cell 0
   have b1 := hB.cell 1
   have b2 := hB.cell 2
   have b3 := hB.cell 3
   have l0 := (hB.pull 1).cell 0
   simp at b0 b1 b2 b3 l0
   have hll := (hB.pull 1).lt
   have hL := hB.alloc (.cells #[.int .i64 ev.what, .int .i64 ev.client, .int .i64 ev.call, .int .i64 ev.version] 41)
   have kL := kB.alloc (.cells #[.int .i64 ev.what, .int .i64 ev.client, .int .i64 ev.call, .int .i64 ev.version] 41)
   go_wp2_with (at_builtin; refine wpList_append_lit rfl (.tmp 3) (.tmp 5) 37 rfl 41 i1 _ 4 32 Tryz.underlying37 hj hy0 hy1 hy2 rfl (by decide) _ _ _ _ _ _ _ rfl (hL.pull 3) 1 1 rfl rfl rfl ?c3 ?c4 ?c5)
   case c3 => unfold maxLen; omega
   case c4 => omega
   case c5 =>
     intro v' w2 h2 k2
     rw [show n + 1 = es.length + 1 by rw [HN.out]] at h2
     have h3 := Sat.tSnoc (f := fEv) (x := ev) h2 rfl
     have l0 := (h3.pull 3).cell 0
     have lf := (h3.pull 3).free 0
     simp at l0
     have h4 := (h3.pull 3).set 0 v'
     have k4 := (kL.trans k2).setCell ⟨lb, 0, none⟩ v'
     obtain ⟨ao2, cap2, rfl⟩ := h3.tLen
     rw [List.length_append, List.length_singleton] at h4 k4
     go_wp2_with fail
     go_end0
     exact ⟨rfl, logP_I (((h4.pull 3).tail.pull 2).tail), k4⟩
theorem note_reads (lb : Nat) : NoteOk 56 #[.pointer (some ⟨lb, 0, none⟩)] (logP lb) (fun es e => es ++ [e]) (fun es => es.length ≤ 100000) where
 ent := enters_ofC Tryz.func56 (by kernel_rfl) (by kernel_rfl)
 call := by
   intro es ev w l hx hs
   obtain ⟨i1, hj, hy0, hy1, hy2⟩ := info_parts Tryz.infoEv
   obtain ⟨v0, h1⟩ := logP_E hs
   obtain ⟨vao, vcap, hv0⟩ := (h1.pull 1).tLen
   obtain ⟨n, hnn⟩ : ∃ n, es.length = n := ⟨_, rfl⟩
   rw [hnn] at hv0
   have hx' : n ≤ 100000 := by rw [← hnn]; exact hx
   subst hv0
   have HN := Lib.hid hnn
   have e2 : rowT fEv (.slice vao n vcap) 41 4 es = row (.slice vao n vcap) 41 4 n (es.flatMap fEv) := by unfold rowT; rw [hnn]
   rw [e2] at h1
   have hB := h1.alloc (.cells #[.int .i64 ev.what, .int .i64 ev.client, .int .i64 ev.call, .int .i64 ev.version] 41)
   have kB := (Kp.refl w).alloc (.cells #[.int .i64 ev.what, .int .i64 ev.client, .int .i64 ev.call, .int .i64 ev.version] 41)
   clear e2 hnn hx hs h1
   unfold aggEv
   go_enter Tryz.func56, Tryz.ntmps56
   go_upto_region 1 with (fail)
   generalize World.alloc _ _ = w1 at hB kB ⊢
   generalize w.heap.size = B at hB ⊢
   have b0 := hB.cell 0
   have b1 := hB.cell 1
   have b2 := hB.cell 2
   have b3 := hB.cell 3
   have l0 := (hB.pull 1).cell 0
   simp at b0 b1 b2 b3 l0
   have hll := (hB.pull 1).lt
   have hL := hB.alloc (.cells #[.int .i64 ev.what, .int .i64 ev.client, .int .i64 ev.call, .int .i64 ev.version] 41)
   have kL := kB.alloc (.cells #[.int .i64 ev.what, .int .i64 ev.client, .int .i64 ev.call, .int .i64 ev.version] 41)
   go_wp2_with (at_builtin; refine wpList_append_lit rfl (.tmp 3) (.tmp 5) 37 rfl 41 i1 _ 4 32 Tryz.underlying37 hj hy0 hy1 hy2 rfl (by decide) _ _ _ _ _ _ _ rfl (hL.pull 3) 1 1 rfl rfl rfl ?c3 ?c4 ?c5)
   case c3 => unfold maxLen; omega
   case c4 => omega
   case c5 =>
     intro v' w2 h2 k2
     rw [show n + 1 = es.length + 1 by rw [HN.out]] at h2
     have h3 := Sat.tSnoc (f := fEv) (x := ev) h2 rfl
     have l0 := (h3.pull 3).cell 0
     have lf := (h3.pull 3).free 0
     simp at l0
     have h4 := (h3.pull 3).set 0 v'
     have k4 := (kL.trans k2).setCell ⟨lb, 0, none⟩ v'
     obtain ⟨ao2, cap2, rfl⟩ := h3.tLen
     rw [List.length_append, List.length_singleton] at h4 k4
     go_wp2_with fail
     go_end0
     exact ⟨rfl, logP_I (((h4.pull 3).tail.pull 2).tail), k4⟩
/-! ### steps, one by one -/
section
variable {σ : Type} {k : FuncId} {cap : Array Value} {N : σ → HProp} {st : σ → EvD → σ} {ok : σ → Prop}
theorem rdy_of {C : CliD} {r : RepD} {x : CallD} (hx : C.calls[C.at']? = some x) (hw : C.waits = false) : (decide (C.at' < C.calls.length) && (!C.waits || r.lies)) = true := by
 have := (List.getElem?_eq_some_iff.1 hx).1
 simp [hw, this]
theorem step_of {w : World} {l : List HProp} {c d s : Nat} {note : Value} {C : CliD} {D : DeskD} {r : RepD} {k : FuncId} {fn : Func} {M : HProp} {R : World → Prop} (hs : Sat w (cliP c d s note C :: M :: deskP d D :: l)) (hr : D.reps[C.i]? = some r) (hat : C.at' ≤ 1000000)
   (hrd : (decide (C.at' < C.calls.length) && (!C.waits || r.lies)) = true) (hk : cxV c C.next = .func (.func k) #[.pointer (some ⟨c, 0, none⟩)] #[]) (hf : Tryz.prog.funcs[k]? = some fn) (hname : (fn.name == "runtime.NumGoroutine") = false) (hb : fn.body.isSome = true)
   (hq : ∀ w1, Sat w1 (cliP c d s note C :: M :: deskP d D :: l) → Calls Tryz.prog k #[.pointer (some ⟨c, 0, none⟩)] w1 fun e w' => e = .returned (.tuple #[]) ∧ R w' ∧ Kp w1 w') :
   Calls Tryz.prog 21 #[.pointer (some ⟨c, 0, none⟩)] w fun e w' => e = .returned (.tuple #[]) ∧ R w' ∧ Kp w w' :=
 cli_step (R := fun w' => R w' ∧ Kp w w') ((hs.pull 2).swap) hr hat hrd hk (enters_ofC hf hname hb) fun w1 h1 k1 => (hq w1 ((h1.pull 2).swap)).mono fun e w' ⟨a, b, c⟩ => ⟨a, b, k1.trans c⟩
theorem step_begin_read (hN : NoteOk k cap N st ok) {y : σ} {w : World} {l : List HProp} {c d s : Nat} {C : CliD} {x : CallD} {D : DeskD} {r : RepD}
   (hy : ok y) (hat : C.at' < 1000000) (hx : C.calls[C.at']? = some x) (hkd : x.kind = 3 ∨ x.kind = 4) (hD0 : 0 ≤ D.acc) (hD1 : D.acc < 1000000000) (hr : D.reps[C.i]? = some r) (hw : C.waits = false) (hn : C.next = .begin)
   (hs : Sat w (cliP c d s (.func (.func k) #[] cap) C :: N y :: deskP d D :: l)) :
   Calls Tryz.prog 21 #[.pointer (some ⟨c, 0, none⟩)] w fun e w' => e = .returned (.tuple #[]) ∧ Sat w' (cliP c d s (.func (.func k) #[] cap) { C with epoch := D.epoch, next := .pin } :: N (st y ⟨0, C.i, C.at', 0⟩) :: deskP d (tick D) :: l) ∧ Kp w w' :=
 step_of hs hr (by omega) (rdy_of hx hw) (by rw [hn]; rfl) Tryz.func66 (by kernel_rfl) (by kernel_rfl) fun w1 h1 => cli_begin_read hN hy hat hx hkd hD0 hD1 h1
theorem step_begin_bad (hN : NoteOk k cap N st ok) {y : σ} {w : World} {l : List HProp} {c d s : Nat} {C : CliD} {x : CallD} {D : DeskD} {r : RepD}
   (hy : ok y) (hy1 : ok (st y ⟨0, C.i, C.at', 0⟩)) (hat : C.at' < 1000000) (hal : C.answers.length ≤ 1000000) (hx : C.calls[C.at']? = some x) (hkd : x.kind < 0 ∨ 7 < x.kind) (hr : D.reps[C.i]? = some r) (hw : C.waits = false) (hn : C.next = .begin)
   (hs : Sat w (cliP c d s (.func (.func k) #[] cap) C :: N y :: deskP d D :: l)) :
   Calls Tryz.prog 21 #[.pointer (some ⟨c, 0, none⟩)] w fun e w' => e = .returned (.tuple #[]) ∧ Sat w' (cliP c d s (.func (.func k) #[] cap) { C with answers := C.answers ++ [⟨1, 0, 0, none, 0, 0, none, 0, 0, false⟩], at' := C.at' + 1, next := .begin } :: N (st (st y ⟨0, C.i, C.at', 0⟩) ⟨9, C.i, C.at', 0⟩) :: deskP d D :: l) ∧ Kp w w' :=
 step_of hs hr (by omega) (rdy_of hx hw) (by rw [hn]; rfl) Tryz.func66 (by kernel_rfl) (by kernel_rfl) fun w1 h1 => cli_begin_bad hN hy hy1 hat hal hx hkd h1
theorem step_begin_send (hN : NoteOk k cap N st ok) {y : σ} {w : World} {l : List HProp} {c d s : Nat} {C : CliD} {x : CallD} {D D' : DeskD} {r : RepD} {q : Int}
   (hy : ok y) (hy1 : ok (st y ⟨0, C.i, C.at', 0⟩)) (hy2 : ok (st (st y ⟨0, C.i, C.at', 0⟩) ⟨2, C.i, C.at', 0⟩)) (hat : C.at' < 1000000) (hal : C.answers.length ≤ 1000000) (hx : C.calls[C.at']? = some x)
   (hkd : x.kind = 0 ∨ x.kind = 1 ∨ x.kind = 2 ∨ x.kind = 5 ∨ x.kind = 6 ∨ x.kind = 7) (hr : D.reps[C.i]? = some r) (hw : C.waits = false) (hn : C.next = .begin)
   (hs : Sat w (cliP c d s (.func (.func k) #[] cap) C :: N y :: deskP d D :: l))
   (hsend : ∀ (w : World) (l : List HProp), Sat w (deskP d D :: l) → Calls Tryz.prog 52 #[.pointer (some ⟨d, 0, none⟩), aggM (msgOf C x)] w fun e w' => e = .returned (.int .i64 q) ∧ Sat w' (deskP d D' :: l) ∧ Kp w w') :
   Calls Tryz.prog 21 #[.pointer (some ⟨c, 0, none⟩)] w fun e w' => e = .returned (.tuple #[]) ∧ SendQ k cap N st (st y ⟨0, C.i, C.at', 0⟩) c d s C D' q l w' ∧ Kp w w' :=
 step_of hs hr (by omega) (rdy_of hx hw) (by rw [hn]; rfl) Tryz.func66 (by kernel_rfl) (by kernel_rfl) fun w1 h1 => cli_begin_send hN hy hy1 hy2 hat hal hx hkd h1 hsend
theorem step_pin {M : HProp} {w : World} {l : List HProp} {c d s : Nat} {note : Value} {C : CliD} {D : DeskD} {x : CallD} {r : RepD} (hat : C.at' < 1000000) (hi : C.i < D.pins.length) (hD0 : 0 ≤ D.acc) (hD1 : D.acc < 1000000000) (he0 : -1000000000 ≤ C.epoch) (he1 : C.epoch ≤ 1000000000) (hx : C.calls[C.at']? = some x) (hr : D.reps[C.i]? = some r) (hw : C.waits = false) (hn : C.next = .pin)
   (hs : Sat w (cliP c d s note C :: M :: deskP d D :: l)) :
   Calls Tryz.prog 21 #[.pointer (some ⟨c, 0, none⟩)] w fun e w' => e = .returned (.tuple #[]) ∧ Sat w' (cliP c d s note { C with next := .load } :: M :: deskP d { tick D with pins := D.pins.set C.i (C.epoch + 1) } :: l) ∧ Kp w w' :=
 step_of hs hr (by omega) (rdy_of hx hw) (by rw [hn]; rfl) Tryz.func96 (by kernel_rfl) (by kernel_rfl) fun w1 h1 => (cli_pin hi hD0 hD1 he0 he1 ((h1.pull 2).swap)).mono fun e w' ⟨a, b, c⟩ => ⟨a, (b.pull 2).swap, c⟩
theorem step_load (hN : NoteOk k cap N st ok) {y : σ} {w : World} {l : List HProp} {c d s : Nat} {C : CliD} {D : DeskD} {x : CallD} {Z : HProp} {F : FindD} {r : RepD}
   (hy : ok y) (hat : C.at' < 1000000) (hx : C.calls[C.at']? = some x) (hD0 : 0 ≤ D.acc) (hD1 : D.acc < 1000000000) (hr : D.reps[C.i]? = some r) (hw : C.waits = false) (hn : C.next = .load)
   (hs : Sat w (cliP c d s (.func (.func k) #[] cap) C :: N y :: deskP d D :: Z :: l))
   (hnew : ∀ (W : World) (l' : List HProp), Sat W (Z :: l') → Calls Tryz.prog 33 #[.bool (x.kind == 4), .string x.text, aggV (verOf D)] W fun e w' => ∃ f, e = .returned (.pointer (some ⟨f, 0, none⟩)) ∧ Sat w' (findP f F :: Z :: l') ∧ Kp W w') :
   Calls Tryz.prog 21 #[.pointer (some ⟨c, 0, none⟩)] w fun e w' => e = .returned (.tuple #[]) ∧ (∃ f, Sat w' (cliP c d s (.func (.func k) #[] cap) { C with v := verOf D, reads := true, find := some ⟨f, 0, none⟩, next := .node } :: N (st y ⟨8, C.i, C.at', D.n⟩) :: deskP d (tick D) :: findP f F :: Z :: l)) ∧ Kp w w' :=
 step_of (l := Z :: l) hs hr (by omega) (rdy_of hx hw) (by rw [hn]; rfl) Tryz.func121 (by kernel_rfl) (by kernel_rfl) fun w1 h1 => (cli_load hN hy hat hx hD0 hD1 h1 hnew).mono fun e w' ⟨a, f, b, c⟩ => ⟨a, ⟨f, b⟩, c⟩
theorem step_node_last (hN : NoteOk k cap N st ok) {y : σ} {w : World} {l : List HProp} {c d s f : Nat} {C : CliD} {D : DeskD} {F : FindD} {x : CallD} {r : RepD}
   (hy : ok y) (hat : C.at' < 1000000) (hal : C.answers.length ≤ 1000000) (hfd : C.find = some ⟨f, 0, none⟩) (hn : F.next = .no) (hk : F.kids.length ≤ 1000000) (hi : C.i < D.pins.length) (hD0 : 0 ≤ D.acc) (hD1 : D.acc < 1000000000) (hx : C.calls[C.at']? = some x) (hr : D.reps[C.i]? = some r) (hw : C.waits = false) (hn' : C.next = .node)
   (hs : Sat w (cliP c d s (.func (.func k) #[] cap) C :: N y :: deskP d D :: findP f F :: l)) :
   Calls Tryz.prog 21 #[.pointer (some ⟨c, 0, none⟩)] w fun e w' => e = .returned (.tuple #[]) ∧ (∃ ao m cp, Sat w' (cliP c d s (.func (.func k) #[] cap) { C with v := ⟨0, 0, 0, 0, 0⟩, reads := false, answers := C.answers ++ [⟨F.e, F.ver, F.node, ao, m, cp, none, 0, 0, false⟩], at' := C.at' + 1, next := .begin } :: N (st y ⟨9, C.i, C.at', F.ver⟩) :: deskP d { tick D with pins := D.pins.set C.i 0 } :: rowT fK (.slice ao m cp) 73 3 F.kids :: findP f F :: l)) ∧ Kp w w' :=
 step_of (l := findP f F :: l) hs hr (by omega) (rdy_of hx hw) (by rw [hn']; rfl) Tryz.func147 (by kernel_rfl) (by kernel_rfl) fun w1 h1 => (cli_node_last hN hy hat hal hfd hn hk hi hD0 hD1 h1).mono fun e w' ⟨a, ao, m, cp, b, c⟩ => ⟨a, ⟨ao, m, cp, b⟩, c⟩
theorem step_take (hN : NoteOk k cap N st ok) {y : σ} {w : World} {l : List HProp} {c d s : Nat} {C : CliD} {D : DeskD} {a : RepD} {x : CallD}
   (hy : ok y) (hat : C.at' < 1000000) (hal : C.answers.length ≤ 1000000) (hr : D.reps[C.i]? = some a) (hl : a.lies = true) (hD0 : 0 ≤ D.acc) (hD1 : D.acc < 1000000000) (hx : C.calls[C.at']? = some x) (hn : C.next = .take)
   (hs : Sat w (cliP c d s (.func (.func k) #[] cap) C :: N y :: deskP d D :: l)) :
   Calls Tryz.prog 21 #[.pointer (some ⟨c, 0, none⟩)] w fun e w' => e = .returned (.tuple #[]) ∧ Sat w' (cliP c d s (.func (.func k) #[] cap) { C with waits := false, answers := C.answers ++ [a], at' := C.at' + 1, next := .begin } :: N (st y ⟨9, C.i, C.at', a.version⟩) :: deskP d { tick D with reps := D.reps.set C.i zeroR } :: l) ∧ Kp w w' :=
 step_of hs hr (by omega) (by have := (List.getElem?_eq_some_iff.1 hx).1; simp [hl, this]) (by rw [hn]; rfl) Tryz.func122 (by kernel_rfl) (by kernel_rfl) fun w1 h1 => cli_take hN hy hat hal hr hl hD0 hD1 h1
end
/-- A slice of events as they are written down. -/
theorem rowEv3 {w : World} {l : List HProp} (a b c : EvD) (hs : Sat w l) :
   Sat (w.alloc (.cells #[.int .i64 a.what, .int .i64 a.client, .int .i64 a.call, .int .i64 a.version, .int .i64 b.what, .int .i64 b.client, .int .i64 b.call, .int .i64 b.version, .int .i64 c.what, .int .i64 c.client, .int .i64 c.call, .int .i64 c.version] 41))
     (rowT fEv (.slice (some ⟨w.heap.size, 0, none⟩) 3 3) 41 4 [a, b, c] :: l) := by
 have h := (hs.alloc (.cells #[.int .i64 a.what, .int .i64 a.client, .int .i64 a.call, .int .i64 a.version, .int .i64 b.what, .int .i64 b.client, .int .i64 b.call, .int .i64 b.version, .int .i64 c.what, .int .i64 c.client, .int .i64 c.call, .int .i64 c.version] 41)).rowI (off := 0) (size := 4) (n := 3) (cap := 3) (by omega) (by unfold maxLen; omega) (by simp)
 exact h.tOf [a, b, c] rfl rfl
theorem rowEv2 {w : World} {l : List HProp} (a b : EvD) (hs : Sat w l) :
   Sat (w.alloc (.cells #[.int .i64 a.what, .int .i64 a.client, .int .i64 a.call, .int .i64 a.version, .int .i64 b.what, .int .i64 b.client, .int .i64 b.call, .int .i64 b.version] 41))
     (rowT fEv (.slice (some ⟨w.heap.size, 0, none⟩) 2 2) 41 4 [a, b] :: l) := by
 have h := (hs.alloc (.cells #[.int .i64 a.what, .int .i64 a.client, .int .i64 a.call, .int .i64 a.version, .int .i64 b.what, .int .i64 b.client, .int .i64 b.call, .int .i64 b.version] 41)).rowI (off := 0) (size := 4) (n := 2) (cap := 2) (by omega) (by unfold maxLen; omega) (by simp)
 exact h.tOf [a, b] rfl rfl
theorem rowCa1 {w : World} {l : List HProp} (a : CallD) (hs : Sat w l) :
   Sat (w.alloc (.cells #[.int .i64 a.kind, .int .i64 a.node, .int .i64 a.up, .string a.text, .slice a.dao a.dn a.dc] 24)) (rowT fCa (.slice (some ⟨w.heap.size, 0, none⟩) 1 1) 24 5 [a] :: l) := by
 have h := (hs.alloc (.cells #[.int .i64 a.kind, .int .i64 a.node, .int .i64 a.up, .string a.text, .slice a.dao a.dn a.dc] 24)).rowI (off := 0) (size := 5) (n := 1) (cap := 1) (by omega) (by unfold maxLen; omega) (by simp)
 exact h.tOf [a] rfl rfl
theorem rowCa2 {w : World} {l : List HProp} (a b : CallD) (hs : Sat w l) :
   Sat (w.alloc (.cells #[.int .i64 a.kind, .int .i64 a.node, .int .i64 a.up, .string a.text, .slice a.dao a.dn a.dc, .int .i64 b.kind, .int .i64 b.node, .int .i64 b.up, .string b.text, .slice b.dao b.dn b.dc] 24)) (rowT fCa (.slice (some ⟨w.heap.size, 0, none⟩) 2 2) 24 5 [a, b] :: l) := by
 have h := (hs.alloc (.cells #[.int .i64 a.kind, .int .i64 a.node, .int .i64 a.up, .string a.text, .slice a.dao a.dn a.dc, .int .i64 b.kind, .int .i64 b.node, .int .i64 b.up, .string b.text, .slice b.dao b.dn b.dc] 24)).rowI (off := 0) (size := 5) (n := 2) (cap := 2) (by omega) (by unfold maxLen; omega) (by simp)
 exact h.tOf [a, b] rfl rfl
theorem cli_rdy (b : Bool) {M : HProp} {w : World} {l : List HProp} {c d s : Nat} {note : Value} {C : CliD} {D : DeskD} {r : RepD} (hb : (decide (C.at' < C.calls.length) && (!C.waits || r.lies)) = b) (hs : Sat w (cliP c d s note C :: M :: deskP d D :: l)) (hr : D.reps[C.i]? = some r) (hat : C.at' ≤ 1000000) :
   Calls Tryz.prog 26 #[.pointer (some ⟨c, 0, none⟩)] w fun e w' => e = .returned (.bool b) ∧ Sat w' (cliP c d s note C :: M :: deskP d D :: l) ∧ Kp w w' := by
 subst hb
 exact (cli_ready ((hs.pull 2).swap) hr hat).mono fun e w' ⟨h1, h2, h3⟩ => ⟨h1, (h2.pull 2).swap, h3⟩
def callA : CallD := ⟨3, 0, 0, ⟨#[47]⟩, none, 0, 0⟩
theorem client_awake {w : World} {l : List HProp} (hs : Sat w l) :
   Calls Tryz.prog 13 #[] w fun e w' => e = .returned (.bool true) ∧ Sat w' l ∧ Kp w w' := by
 have hB := (hs.tNil fEv 41 4).alloc (.cells #[.slice none 0 0] 37)
 have kB := (Kp.refl w).alloc (.cells #[.slice none 0 0] 37)
 go_enter Tryz.func13, Tryz.ntmps13
 go_upto_region 2 with (fail)
 generalize World.alloc _ _ = w1 at hB kB ⊢
 generalize w.heap.size = lb at hB ⊢
 have h1 := logP_I hB
 clear hB hs
 go_wp2_with fail
 refine (desk_new 1 1 w1 _ h1 (by omega) (by omega) (by omega)).mono ?_
 rintro e w2 ⟨d, rfl, h2, k2⟩
 have k2 := kB.trans k2
 clear kB h1
 go_wp2_with fail
 refine (view_new (most := 10) h2 (by omega) (by omega)).mono ?_
 rintro e w3 ⟨s, rfl, h3, k3⟩
 have k3 := k2.trans k3
 clear k2 h2
 have h4 := rowCa1 callA h3
 have k4 := k3.alloc (.cells #[.int .i64 callA.kind, .int .i64 callA.node, .int .i64 callA.up, .string callA.text, .slice callA.dao callA.dn callA.dc] 24)
 have hmf : ∀ (fn : Fn) (first cap : Array Value) (w : World), (Instr.makeFunc fn first cap).run Tryz.prog w = .ok (.func fn first cap) w := fun _ _ _ _ => rfl
 go_wp2_with fail
 refine (cli_new (d := d) (s := s) (i := 0) (k := 58) (cap := #[.pointer (some ⟨lb, 0, none⟩)]) h4 (by simp)).mono ?_
 rintro e w5 ⟨c, rfl, h5, k5⟩
 have k5 := k4.trans k5
 clear k4 h4 k3 h3
 have h6 := ((((h5.pull 1).tail.pull 3).swap).pull 3).push 2
 clear h5
 have HN := Lib.hid (note_awake lb)
 go_wp2_with fail
 refine wp_loop_rounds 6 ?_
 rw [rounds_succ]
 go_wp2_with fail
 refine (cli_rdy (r := zeroR) true (by rfl) h6 (by rfl) (by decide : (0 : Nat) ≤ 1000000)).mono ?_
 rintro e wa0 ⟨rfl, ha0, ka0⟩
 have kb0 := k5.trans ka0
 clear h6 k5 ka0
 go_wp2_with fail
 refine (step_begin_read HN.out (x := callA) (r := zeroR) (by decide) (by decide) (by rfl) (.inl rfl) (by decide) (by decide) (by rfl) rfl rfl ha0).mono ?_
 rintro e wb0 ⟨rfl, hb0, kc0⟩
 have kd0 := kb0.trans kc0
 clear kb0 ha0 kc0
 go_wp2_with fail
 rw [rounds_succ]
 go_wp2_with fail
 refine (cli_rdy (r := zeroR) true (by rfl) hb0 (by rfl) (by decide : (0 : Nat) ≤ 1000000)).mono ?_
 rintro e wa1 ⟨rfl, ha1, ka1⟩
 have kb1 := kd0.trans ka1
 clear hb0 kd0 ka1
 go_wp2_with fail
 refine (step_pin (x := callA) (r := zeroR) (by decide) (by decide) (by decide) (by decide) (by decide) (by decide) (by rfl) (by rfl) rfl rfl ha1).mono ?_
 rintro e wb1 ⟨rfl, hb1, kc1⟩
 have kd1 := kb1.trans kc1
 clear kb1 ha1 kc1
 go_wp2_with fail
 rw [rounds_succ]
 go_wp2_with fail
 refine (cli_rdy (r := zeroR) true (by rfl) hb1 (by rfl) (by decide : (0 : Nat) ≤ 1000000)).mono ?_
 rintro e wa2 ⟨rfl, ha2, ka2⟩
 have kb2 := kd1.trans ka2
 clear hb1 kd1 ka2
 go_wp2_with fail
 refine (step_load HN.out (x := callA) (r := zeroR) (by show (_ : Nat) ≤ _; decide) (by decide) (by rfl) (by decide) (by decide) (by rfl) rfl rfl ha2 (fun W l' hW => find_new_root hW)).mono ?_
 rintro e wb2 ⟨rfl, ⟨f, hb2⟩, kc2⟩
 have kd2 := kb2.trans kc2
 clear kb2 ha2 kc2
 go_wp2_with fail
 rw [rounds_succ]
 go_wp2_with fail
 refine (cli_rdy (r := zeroR) true (by rfl) hb2 (by rfl) (by decide : (0 : Nat) ≤ 1000000)).mono ?_
 rintro e wa3 ⟨rfl, ha3, ka3⟩
 have kb3 := kd2.trans ka3
 clear hb2 kd2 ka3
 go_wp2_with fail
 refine (step_node_last HN.out (x := callA) (r := zeroR) (by show (_ : Nat) ≤ _; decide) (by exact (by decide : (0 : Nat) < 1000000)) (by exact (by decide : (0 : Nat) ≤ 1000000)) rfl rfl (by exact (by decide : (0 : Nat) ≤ 1000000)) (by exact (by decide : (0 : Nat) < 1)) (by decide) (by decide) (by rfl) (by rfl) rfl rfl ha3).mono ?_
 rintro e wb3 ⟨rfl, ⟨ao, m, cp, hb3⟩, kc3⟩
 have kd3 := kb3.trans kc3
 clear kb3 ha3 kc3
 go_wp2_with fail
 rw [rounds_succ]
 go_wp2_with fail
 refine (cli_rdy (r := zeroR) false (by rfl) hb3 (by rfl) (by decide : (1 : Nat) ≤ 1000000)).mono ?_
 rintro e wa9 ⟨rfl, ha9, ka9⟩
 have kb9 := kd3.trans ka9
 clear hb3 kd3 ka9
 obtain ⟨v, hl⟩ := logP_E (ha9.pull 1)
 obtain ⟨lo, lc, rfl⟩ := (hl.pull 1).tLen
 have l0 := hl.cell 0
 simp at l0
 go_wp2_with fail
 have hl2 := hl.pull 1
 change Sat wa9 (rowT fEv (.slice lo _ lc) 41 4 [⟨0, 0, 0, 0⟩, ⟨8, 0, 0, 0⟩, ⟨9, 0, 0, 0⟩] :: _) at hl2
 have hv := (rowEv3 ⟨0, 0, 0, 0⟩ ⟨8, 0, 0, 0⟩ ⟨9, 0, 0, 0⟩ hl2).swap
 refine (events_same hv (by decide)).mono ?_
 rintro e we ⟨rfl, he, ke⟩
 clear hv hl2 hl l0 ha9
 go_wp2_with fail
 refine (cli_answers (he.pull 3) (by exact (by decide : (1 : Nat) ≤ 1000000))).mono ?_
 rintro e wf ⟨v, rfl, hf, kf⟩
 obtain ⟨ao', cap', rfl⟩ := hf.tLen
 clear he
 go_wp2_with fail
 go_ret
 exact ⟨rfl, hf.tail.tail.tail.tail.tail.tail.tail.tail.tail, ((kb9.alloc _).trans ke).trans kf⟩
theorem few_one {w : World} {l : List HProp} {g off cp : Nat} {x : CallD} {b : Bool} (hs : Sat w (rowT fCa (.slice (some ⟨g, off, none⟩) 1 cp) 24 5 [x] :: l)) (hb : (decide (x.text.size ≤ 450) && decide (x.dn ≤ 400)) = b) :
   Calls Tryz.prog 14 #[.slice (some ⟨g, off, none⟩) 1 cp] w fun e w' => e = .returned (.bool b) ∧ Sat w' (rowT fCa (.slice (some ⟨g, off, none⟩) 1 cp) 24 5 [x] :: l) ∧ Kp w w' := by
 subst hb
 have x3 := hs.tCell len_fCa 0 3 rfl rfl
 have x4 := hs.tCell len_fCa 0 4 rfl rfl
 simp only [Nat.zero_mul, Nat.add_zero] at x3 x4
 by_cases h1 : x.text.size ≤ 450
 · have h1' : (450 < (x.text.size : Int)) = False := by simp; omega
   by_cases h2 : x.dn ≤ 400
   · have h2' : (400 < (x.dn : Int)) = False := by simp; omega
     have h1'' : ¬ (450 : Int) < (x.text.size : Int) := by omega
     have h2'' : ¬ (400 : Int) < (x.dn : Int) := by omega
     go_enter Tryz.func14, Tryz.ntmps14
     go_wp2_with fail
     refine wp_loop_rounds 3 ?_
     rw [rounds_succ]
     go_wp2_with fail
     rw [rounds_succ]
     go_wp2_with fail
     go_ret
     exact ⟨by simp [h1, h2], hs, Kp.refl w⟩
   · have h1'' : ¬ (450 : Int) < (x.text.size : Int) := by omega
     have h2'' : (400 : Int) < (x.dn : Int) := by omega
     go_enter Tryz.func14, Tryz.ntmps14
     go_wp2_with fail
     refine wp_loop_rounds 3 ?_
     rw [rounds_succ]
     go_wp2_with fail
     go_ret
     exact ⟨by simp [h1, h2], hs, Kp.refl w⟩
 · have h1'' : (450 : Int) < (x.text.size : Int) := by omega
   go_enter Tryz.func14, Tryz.ntmps14
   go_wp2_with fail
   refine wp_loop_rounds 3 ?_
   rw [rounds_succ]
   go_wp2_with fail
   go_ret
   exact ⟨by simp [h1], hs, Kp.refl w⟩
theorem reads_no {w : World} {kd : Int} (h3 : kd ≠ 3) (h4 : kd ≠ 4) : Calls Tryz.prog 15 #[.int .i64 kd] w fun e w' => e = .returned (.bool false) ∧ w = w' := by
 have e3 : (kd == 3) = false := by rw [beq_eq_false_iff_ne]; exact h3
 have e4 : (kd == 4) = false := by rw [beq_eq_false_iff_ne]; exact h4
 go_enter Tryz.func15, Tryz.ntmps15
 go_wp2_with fail
 go_ret
 exact ⟨rfl, rfl⟩
theorem reads_yes {w : World} {kd : Int} (h : kd = 3 ∨ kd = 4) : Calls Tryz.prog 15 #[.int .i64 kd] w fun e w' => e = .returned (.bool true) ∧ w = w' := by
 rcases h with rfl | rfl
 all_goals
   go_enter Tryz.func15, Tryz.ntmps15
   go_wp2_with fail
   go_ret
   exact ⟨rfl, rfl⟩
theorem writes_yes {w : World} {kd : Int} (h : kd = 0 ∨ kd = 1 ∨ kd = 2 ∨ kd = 5 ∨ kd = 6 ∨ kd = 7) : Calls Tryz.prog 24 #[.int .i64 kd] w fun e w' => e = .returned (.bool true) ∧ w = w' := by
 rcases h with rfl | rfl | rfl | rfl | rfl | rfl
 all_goals
   go_enter Tryz.func24, Tryz.ntmps24
   go_wp2_with fail
   go_ret
   exact ⟨rfl, rfl⟩
theorem writes_no {w : World} {kd : Int} (h : kd < 0 ∨ 7 < kd) : Calls Tryz.prog 24 #[.int .i64 kd] w fun e w' => e = .returned (.bool false) ∧ w = w' := by
 rcases h with h | h
 · have h1 : ¬ 0 ≤ kd := by omega
   go_enter Tryz.func24, Tryz.ntmps24
   go_wp2_with fail
   go_ret
   exact ⟨rfl, rfl⟩
 · have h1 : 0 ≤ kd := by omega
   have h2 : ¬ kd ≤ 7 := by omega
   go_enter Tryz.func24, Tryz.ntmps24
   go_wp2_with fail
   go_ret
   exact ⟨rfl, rfl⟩
/-- A slice, without its first elements. -/
theorem Sat.tDrop {α : Type} {f : α → List Value} {w : World} {e : TypeId} {size : Nat} {xs : List α} {l : List HProp} {g off n cap : Nat} (hf : ∀ x, (f x).length = size) (k : Nat) (hk : k ≤ xs.length) (hs : Sat w (rowT f (.slice (some ⟨g, off, none⟩) n cap) e size xs :: l)) :
   Sat w (rowT f (.slice (some ⟨g, off + k * size, none⟩) (n - k) (cap - k)) e size (xs.drop k) :: l) := by
 have hc := hs.tCap
 rcases (Sat.rowE hs).2 with ⟨h, _⟩ | ⟨g', off', cap', cur, h, h1, h2, h3, h4, h5⟩
 · simp at h
 · simp only [Value.slice.injEq, Option.some.injEq, Addr.mk.injEq, and_true] at h
   obtain ⟨⟨rfl, rfl⟩, rfl, rfl⟩ := h
   have e0 : k * size + (cap - k) * size = cap * size := by rw [← Nat.add_mul]; congr 1; omega
   have h6 := (h5.rowI (n := xs.length - k) (off := off + k * size) (cap := cap - k) (size := size) (by omega) (by omega) (by omega))
   refine h6.tOf (xs.drop k) (by simp) ?_
   have hl : ∀ ys : List α, (ys.flatMap f).length = ys.length * size := fun ys => len_flatF hf ys
   have h7 := congrArg (List.drop (k * size)) h4
   rw [List.drop_take, List.drop_drop] at h7
   have e1 : xs.length * size - k * size = (xs.length - k) * size := by rw [Nat.sub_mul]
   rw [e1] at h7
   rw [h7]
   have e2 : xs.flatMap f = (xs.take k).flatMap f ++ (xs.drop k).flatMap f := by rw [← List.flatMap_append, List.take_append_drop]
   rw [e2]
   have e3 : ((xs.take k).flatMap f).length = k * size := by rw [hl, List.length_take, Nat.min_eq_left hk]
   rw [← e3, List.drop_left]
theorem slice2 {g off n cap : Nat} (hn : 2 ≤ n) (hc : n ≤ cap) (h2 : 2 < cap) (W : World) : (Instr.sliceAt 37 (.slice (some ⟨g, off, none⟩) n cap) (some (.int .i64 2)) none none).run Tryz.prog W = .ok (.slice (some ⟨g, off + 2 * 4, none⟩) (n - 2) (cap - 2)) W := by
 have h3 : (2 : Int) ≤ (n : Int) := by omega
 have h4 : ¬ cap = 2 := by omega
 go_simp
end Go.Proofs.YtddglbjhhnipgaaGreatDoor

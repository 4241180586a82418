import Derived.Test.YtbnipieokpeadaaDoorTiny
namespace Go.Proofs.YtbnipieokpeadaaDoor
open Go Go.RowKit
set_option linter.unusedVariables false
set_option linter.unusedSimpArgs false

theorem Tryd.infoOp : (Tryd.prog.info? 33).map (fun i => (i.zero, i.size, i.bytes)) = some (some (.agg #[.int .i64 0, .int .i64 0, .int .i64 0, .int .i64 0, .string ⟨#[]⟩]), 5, 48) := by kernel_rfl

theorem tiny_at {w : World} {b off n cap k : Nat} {ts : List TinyD} {a : TinyD} (h : ArgRow w fT (some ⟨b, off, none⟩) n cap ts) (hk : ts[k]? = some a) :
    w.cell? ⟨b, off + k * 5, none⟩ = some (.int .u8 a.n) ∧ w.cell? ⟨b, off + k * 5 + 1, none⟩ = some (.int .u8 a.r) ∧ w.cell? ⟨b, off + k * 5 + 2, none⟩ = some (.int .u8 a.node) ∧ w.cell? ⟨b, off + k * 5 + 3, none⟩ = some (.int .u8 a.up) ∧ w.cell? ⟨b, off + k * 5 + 4, none⟩ = some (.int .u8 a.name) := by
  have h0 := (List.getElem?_eq_some_iff.1 hk).1
  have hl := h.len
  obtain ⟨b', off', e, hc⟩ := h.cells (by omega)
  simp only [Option.some.injEq, Addr.mk.injEq, and_true] at e
  obtain ⟨rfl, rfl⟩ := e
  have key : ∀ j u, j < 5 → (fT a)[j]? = some u → w.cell? ⟨b, off + k * 5 + j, none⟩ = some u := fun j u hj hu => by
    have := hc (k * 5 + j) u (by rw [get_flat len_fT ts k j a hk hj]; exact hu)
    rw [← Nat.add_assoc] at this; exact this
  exact ⟨key 0 _ (by omega) rfl, key 1 _ (by omega) rfl, key 2 _ (by omega) rfl, key 3 _ (by omega) rfl, key 4 _ (by omega) rfl⟩

set_option maxRecDepth 100000 in
set_option maxHeartbeats 2000000 in
theorem tiny_all {W w : World} {l : List HProp} {ao : Option Addr} {n cap : Nat} {ts : List TinyD} (hs : Sat w (oldH W :: l)) (ha : ArgRow W fT ao n cap ts) (hok : ∀ t ∈ ts, TinyOk t) (hn : n ≤ 30) :
    Calls Tryd.prog 13 #[.slice ao n cap] w fun e w' => ∃ v, e = .returned v ∧ Sat w' (rowT fO v 33 5 (ts.map ofT) :: oldH W :: l) ∧ Kp w w' := by
  obtain ⟨i0, hi, hz0, hz1, hz2⟩ := info_parts Tryd.infoOp
  have HL := Lib.hid ha.len
  have HO := Lib.hid hok
  have hn' : (n : Int) ≤ 30 := by omega
  clear hok
  go_enter Tryd.func13, Tryd.ntmps13
  go_wp2_with fail
  go_loopw [3, 4] (fun ov iv wr => ∃ i : Nat, i ≤ n ∧ iv = .int .i64 i ∧ Sat wr (rowT fO ov 33 5 ((ts.take i).map ofT) :: oldH W :: l) ∧ Kp w wr) (fun _ iv _ => n - (intOf iv).toNat)
  case atStart => exact ⟨0, by omega, rfl, by simpa using hs.tNil fO 33 5, Kp.refl w⟩
  case round =>
    obtain ⟨i, hin, rfl, h2, k2⟩ := hrel
    by_cases hlt : i < n
    case neg =>
      obtain rfl : n = i := by omega
      have e1 : ts.take n = ts := List.take_of_length_le (by have := HL.out; omega)
      rw [e1] at h2
      obtain ⟨ao', cap', rfl⟩ := h2.tLen
      go_wp2_with fail
      go_ret
      exact ⟨_, rfl, h2, k2⟩
    obtain ⟨x, hx⟩ : ∃ x, ts[i]? = some x := ⟨ts[i]'(by rw [HL.out]; exact hlt), by simp⟩
    have hao := ha.old (h2.pull 1)
    obtain ⟨b, off, rfl⟩ : ∃ b off, ao = some ⟨b, off, none⟩ := by
      obtain ⟨b, off, e, _⟩ := hao.cells (by omega)
      exact ⟨b, off, e⟩
    obtain ⟨x0, x1, x2, x3, x4⟩ := tiny_at hao hx
    have i0' : (0 : Int) ≤ (i : Int) := by omega
    have i1' : (i : Int) < (n : Int) := by omega
    have HX := Lib.hid hx
    have HOK := Lib.hid (HO.out x (List.mem_of_getElem? hx))
    have hlen : ((ts.take i).map ofT).length = i := by rw [List.length_map, List.length_take]; have := HL.out; omega
    obtain ⟨xs, hxs⟩ : ∃ xs, xs = (ts.take i).map ofT := ⟨_, rfl⟩
    rw [← hxs] at h2 hlen
    have HXS := Lib.hid hxs
    have HLEN := Lib.hid hlen
    clear hx hao hlen hxs
    obtain ⟨oao, ocap, rfl⟩ := h2.tLen
    rw [HLEN.out] at h2 ⊢
    go_wp2_with fail
    refine (tiny_of h2 HOK.out).mono ?_
    rintro e w3 ⟨rfl, h3, k3⟩
    simp only [aggO]
    have hL := h3.alloc (.cells #[.int .i64 (ofT x).n, .int .i64 (ofT x).r, .int .i64 (ofT x).node, .int .i64 (ofT x).up, .string (ofT x).name] 33)
    have kL := (k2.trans k3).alloc (.cells #[.int .i64 (ofT x).n, .int .i64 (ofT x).r, .int .i64 (ofT x).node, .int .i64 (ofT x).up, .string (ofT x).name] 33)
    clear x0 x1 x2 x3 x4
    go_wp2_with (at_builtin; refine wpList_append_lit rfl (.tmp 11) (.tmp 17) 28 rfl 33 i0 _ 5 48 Tryd.underlying28 hi hz0 hz1 hz2 rfl (by decide) _ _ _ _ _ _ _ rfl (hL.pull 1) 1 1 rfl rfl rfl ?c3 ?c4 ?c5)
    case c3 => rw [HLEN.out]; unfold maxLen; omega
    case c4 => rw [HLEN.out]; omega
    case c5 =>
      intro v' w5 hs5 hk5
      have h7 := Sat.tSnoc (f := fO) (x := ofT x) hs5 rfl
      have e1 : (ts.take (i + 1)).map ofT = xs ++ [ofT x] := by rw [take_snoc' HX.out, List.map_append, ← HXS.out]; rfl
      go_wp2_with fail
      go_roundw
      case rel =>
        refine ⟨i + 1, by omega, by go_num, ?_, kL.trans hk5⟩
        rw [e1]
        exact (h7.pull 1).tail
      case measure => simp [intOf]; omega

set_option maxRecDepth 100000 in
set_option maxHeartbeats 2000000 in
theorem tree_grown {w : World} {l : List HProp} {v : Value} {os : List OpD} (hs : Sat w (rowT fO v 33 5 os :: l)) (hsm : ∀ o ∈ os, Small o) (hn : os.length ≤ 30) :
    Calls Tryd.prog 12 #[v] w fun e w' => ∃ t f ds, Acyc f ∧ Few f ∧ ds.length = os.length ∧ e = .returned (.pointer (some ⟨t, 0, none⟩)) ∧ Sat w' (treeP t f ds :: rowT fO v 33 5 os :: l) ∧ Kp w w' := by
  obtain ⟨ao, cap, rfl⟩ := hs.tLen
  obtain ⟨n, hn0⟩ : ∃ n, n = os.length := ⟨_, rfl⟩
  rw [← hn0] at hs hn ⊢
  have HN := Lib.hid hn0
  have HS := Lib.hid hsm
  have hn' : (n : Int) ≤ 30 := by omega
  clear hn0 hsm
  go_enter Tryd.func12, Tryd.ntmps12
  go_wp2_with fail
  refine (tree_new hs).mono ?_
  rintro e w1 ⟨t, rfl, h1, k1⟩
  go_wp2_with fail
  go_loopw [4] (fun iv wr => ∃ (i : Nat) (f : Int → Option Loc) (ds : List ChD), i ≤ n ∧ iv = .int .i64 i ∧ Hid (Acyc f ∧ Few f ∧ ds.length = i) ∧ Sat wr (treeP t f ds :: rowT fO (.slice ao n cap) 33 5 os :: l) ∧ Kp w wr) (fun iv _ => n - (intOf iv).toNat)
  case atStart => exact ⟨0, _, _, by omega, rfl, Lib.hid ⟨acyc_empty, few_empty, rfl⟩, h1, k1⟩
  case round =>
    clear h1 k1
    obtain ⟨i, f, ds, hin, rfl, hI, h2, k2⟩ := hrel
    by_cases hlt : i < n
    case neg =>
      obtain rfl : n = i := by omega
      go_wp2_with fail
      go_ret
      exact ⟨t, f, ds, hI.out.1, hI.out.2.1, hI.out.2.2, rfl, h2, k2⟩
    obtain ⟨o, ho⟩ : ∃ o, os[i]? = some o := ⟨os[i]'(by rw [← HN.out]; exact hlt), by simp⟩
    rcases (h2.pull 1).tForm with ⟨hv, hp⟩ | ⟨g, off, cap', hv⟩
    · rw [hp] at ho; simp at ho
    simp only [Value.slice.injEq] at hv
    obtain ⟨rfl, -, rfl⟩ := hv
    have x0 := (h2.pull 1).tCell len_fO i 0 ho rfl
    have x1 := (h2.pull 1).tCell len_fO i 1 ho rfl
    have x2 := (h2.pull 1).tCell len_fO i 2 ho rfl
    have x3 := (h2.pull 1).tCell len_fO i 3 ho rfl
    have x4 := (h2.pull 1).tCell len_fO i 4 ho rfl
    rw [Nat.add_zero] at x0
    have i0' : (0 : Int) ≤ (i : Int) := by omega
    have i1' : (i : Int) < (n : Int) := by omega
    have hso := HS.out o (List.mem_of_getElem? ho)
    obtain ⟨r, hr⟩ : ∃ r : Bool, r = true ↔ known f o.up = true ∧ ¬ Anc f o.node o.up := by
      by_cases h : known f o.up = true ∧ ¬ Anc f o.node o.up
      · exact ⟨true, fun _ => h, fun _ => rfl⟩
      · exact ⟨false, fun e => (by cases e), fun e => absurd e h⟩
    have hcall := tree_apply (o := o) h2 hI.out.1 (isRight_small hso) hr (by rw [hI.out.2.2]; omega)
    have hA' : Hid (Acyc (applied f o r) ∧ Few (applied f o r)) := by
      refine Lib.hid ?_
      cases r with
      | false => exact ⟨hI.out.1, hI.out.2.1⟩
      | true => exact ⟨hI.out.1.put (hr.1 rfl).2, hI.out.2.1.put hso.node0 hso.node1⟩
    clear hso hr ho
    go_wp2_with fail
    refine hcall.mono ?_
    rintro e w3 ⟨rfl, h3, k3⟩
    go_wp2_with fail
    go_roundw
    case rel => exact ⟨i + 1, _, _, by omega, by go_num, Lib.hid ⟨hA'.out.1, hA'.out.2, by rw [List.length_append, hI.out.2.2]; rfl⟩, h3, k2.trans k3⟩
    case measure => simp [intOf]; omega

end Go.Proofs.YtbnipieokpeadaaDoor

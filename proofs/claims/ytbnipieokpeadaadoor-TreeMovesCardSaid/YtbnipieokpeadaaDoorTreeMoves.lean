import Derived.Test.YtbnipieokpeadaaDoorSpot
import Derived.Test.YtbnipieokpeadaaDoorLast
namespace Go.Proofs.YtbnipieokpeadaaDoor
open Go Go.RowKit
set_option linter.unusedVariables false
set_option linter.unusedSimpArgs false

theorem heldAt {P : Program} {md : Region.Mode} {ops : Array Oper} {Q : Exit → Act → World → Prop} {S : World → Prop} {fuel : Nat} {listed : Array Bool} {a : Act} {w : World} {i : Nat} {oi : Oper} (hi : ops[i]? = some oi) (h : ops[i]? = some oi → wpAnyH P md ops Q S fuel listed a w) : wpAnyH P md ops Q S fuel listed a w := h hi

theorem anc_upd {f : Int → Option Loc} {n : Int} {s : Option Loc} {b : Int} : Anc (upd f n s) n b ↔ Anc f n b := by
  constructor
  · intro h
    induction h with
    | here => exact .here
    | @up b l e _ ih =>
      by_cases hb : b = n
      · rw [hb]; exact .here
      · rw [upd_other hb] at e
        exact .up e ih
  · intro h
    induction h with
    | here => exact .here
    | @up b l e _ ih =>
      by_cases hb : b = n
      · rw [hb]; exact .here
      · exact .up (by rw [upd_other hb]; exact e) ih

theorem anc_applied {f : Int → Option Loc} {o : OpD} {r : Bool} {b : Int} : Anc (applied f o r) o.node b ↔ Anc f o.node b := by
  cases r with
  | false => exact Iff.rfl
  | true => exact anc_upd

theorem spot_eq (u : Int) (n : ByteArray) (W : World) : (binOp BinOp.eql 49 (.agg #[.bool true, .int .i64 u, .string n]) (.agg #[.bool true, .int .i64 u, .string n])).run Tryd.prog W = .ok (.bool true) W := by
  go_simp
  try simp

noncomputable def ancB (f : Int → Option Loc) (a b : Int) : Bool := @decide (Anc f a b) (Classical.propDecidable _)
theorem ancB_iff {f : Int → Option Loc} {a b : Int} : ancB f a b = true ↔ Anc f a b := by
  unfold ancB
  exact @decide_eq_true_iff _ (Classical.propDecidable _)
theorem kids_mem {f : Int → Option Loc} {S : List (Int × Loc)} {test : Int × Loc → Bool} {k : KidD} (hS : Enum f S) (hk : k ∈ isort klt (kidsOf test S)) : f k.node = some ⟨k.up, k.name⟩ := by
  have h1 := (isort_perm klt _).mem_iff.1 hk
  unfold kidsOf at h1
  obtain ⟨p, hp, rfl⟩ := List.mem_map.1 h1
  exact hS.mem p (List.mem_filter.1 hp).1
theorem Sat.rowsNe {w : World} {e e2 : TypeId} {size size2 n n2 m m2 g g2 off off2 cap cap2 : Nat} {xs xs2 : List Value} {l : List HProp} (hs : Sat w (row (.slice (some ⟨g, off, none⟩) n cap) e size m xs :: row (.slice (some ⟨g2, off2, none⟩) n2 cap2) e2 size2 m2 xs2 :: l)) : g ≠ g2 := by
  obtain ⟨_, h⟩ := hs.rowE
  rcases h with ⟨h, _⟩ | ⟨g', off', cap', cur, h, _, _, _, _, ho⟩
  · simp at h
  simp only [Value.slice.injEq, Option.some.injEq, Addr.mk.injEq, and_true] at h
  obtain ⟨⟨rfl, rfl⟩, _⟩ := h
  obtain ⟨_, h⟩ := ho.swap.rowE
  rcases h with ⟨h, _⟩ | ⟨g', off', cap', cur, h, _, _, _, _, ho2⟩
  · simp at h
  simp only [Value.slice.injEq, Option.some.injEq, Addr.mk.injEq, and_true] at h
  obtain ⟨⟨rfl, rfl⟩, _⟩ := h
  exact ho2.ne.symm
theorem own_node {w : World} {l : List HProp} {O : Nat} {a b node c : Int} {nm : ByteArray} (h : Sat w (own O (.cells #[.int .i64 a, .int .i64 b, .int .i64 node, .int .i64 c, .string nm] 33 (0, 0)) :: l)) : w.cell? ⟨O, 2, none⟩ = some (.int .i64 node) := by
  have := h.cell 2
  simpa using this
theorem Sat.tSet1 {α : Type} {f : α → List Value} {w : World} {e : TypeId} {xs : List α} {l : List HProp} {g off n cap : Nat} (hf : ∀ x, (f x).length = 1) (hs : Sat w (rowT f (.slice (some ⟨g, off, none⟩) n cap) e 1 xs :: l)) (i : Nat) (y : α) (hi : i < xs.length) {u : Value} (hu : f y = [u]) :
    Sat (w.setCell ⟨g, off + i, none⟩ u) (rowT f (.slice (some ⟨g, off, none⟩) n cap) e 1 (xs.set i y) :: l) := by
  have h := hs.tPut' hf i y hi
  rw [hu, Nat.mul_one] at h
  exact h
def fBo (b : Bool) : List Value := [.bool b]
theorem len_fBo (b : Bool) : (fBo b).length = 1 := rfl
theorem Tryd.infoBool : (Tryd.prog.info? 4).map (fun i => (i.zero, i.size, i.bytes)) = some (some (.bool false), 1, 1) := by kernel_rfl

theorem bool_at {w : World} {l : List HProp} {g n cap i : Nat} {us : List Bool} {a : Bool} (h : Sat w (rowT fBo (.slice (some ⟨g, 0, none⟩) n cap) 4 1 us :: l)) (hi : us[i]? = some a) : w.cell? ⟨g, i, none⟩ = some (.bool a) := by
  have := h.tCell len_fBo i 0 hi rfl
  simpa using this

set_option maxRecDepth 100000 in
set_option maxHeartbeats 4000000 in
theorem treeMoves_walk (ao : Option Addr) (n cap : Nat) (ts : List TinyD) (m : TinyD) (W : World) (hr : ArgRow W fT ao n cap ts) (hq : ∀ t ∈ ts, TinyOk t) (hm : TinyOk m) :
    LawCalls Tryd.prog 6 #[.slice ao n cap, .agg #[.int .u8 m.n, .int .u8 m.r, .int .u8 m.node, .int .u8 m.up, .int .u8 m.name]] W := by
  obtain ⟨i0, hi, hz0, hz1, hz2⟩ := info_parts Tryd.infoBool
  have H0 := Sat.start W
  have hle := hr.le
  have hsm := hr.small
  unfold maxLen at hsm
  have HL := Lib.hid hr.len
  have HQ := Lib.hid hq
  have HM := Lib.hid hm
  clear hq hm
  have hM := H0.alloc (.cells #[.int .u8 m.n, .int .u8 m.r, .int .u8 m.node, .int .u8 m.up, .int .u8 m.name] 24)
  have kM := (Kp.refl W).alloc (.cells #[.int .u8 m.n, .int .u8 m.r, .int .u8 m.node, .int .u8 m.up, .int .u8 m.name] 24)
  go_enter Tryd.func6, Tryd.ntmps6
  go_upto_region 1 with (fail)
  generalize World.alloc _ _ = w0 at hM kM ⊢
  generalize W.heap.size = M at hM ⊢
  go_wp2_with fail
  refine (tree_awake hM).mono ?_
  rintro e w1 ⟨rfl, h1, k1⟩
  have k1 := kM.trans k1
  clear H0 hM kM
  by_cases hmost : 30 < n
  · have hmost' : (30 : Int) < (n : Int) := by omega
    clear hmost
    go_wp2_with fail
    go_ret
    exact ⟨rfl, (h1.pull 1).below k1⟩
  have hmost' : (n : Int) ≤ 30 := by omega
  go_wp2_with fail
  refine (tiny_all (h1.pull 1) hr HQ.out (by omega)).mono ?_
  rintro e w2 ⟨v, rfl, h2, k2⟩
  go_wp2_with fail
  refine (tree_grown h2 ?_ (by rw [List.length_map, HL.out]; omega)).mono ?_
  · intro o ho
    obtain ⟨t, ht, rfl⟩ := List.mem_map.1 ho
    exact small_ofT (HQ.out t ht)
  rintro e w3 ⟨t, f, ds, hA, hF, hd, rfl, h3, k3⟩
  have k3 := (k1.trans k2).trans k3
  have hdl : ds.length ≤ 1000 := by rw [hd, List.length_map, HL.out]; omega
  have HA := Lib.hid hA
  have HF := Lib.hid hF
  have HD := Lib.hid hdl
  clear hA hF hd hdl h1 k1 h2 k2
  have m0 := (h3.pull 3).cell 0
  have m1 := (h3.pull 3).cell 1
  have m2 := (h3.pull 3).cell 2
  have m3 := (h3.pull 3).cell 3
  have m4 := (h3.pull 3).cell 4
  simp at m0 m1 m2 m3 m4
  go_wp2_with fail
  refine (tiny_of h3 HM.out).mono ?_
  rintro e w4 ⟨rfl, h4, k4⟩
  have k4 := k3.trans k4
  clear m0 m1 m2 m3 m4 h3 k3
  simp only [aggO]
  have hso := small_ofT HM.out
  generalize ofT m = o at hso ⊢
  obtain ⟨on, or', node, up, name⟩ := o
  have hO := h4.alloc (.cells #[.int .i64 on, .int .i64 or', .int .i64 node, .int .i64 up, .string name] 33)
  have kO := k4.alloc (.cells #[.int .i64 on, .int .i64 or', .int .i64 node, .int .i64 up, .string name] 33)
  go_upto_region 8 with (fail)
  generalize World.alloc _ _ = w5 at hO kO ⊢
  generalize w4.heap.size = O at hO ⊢
  clear h4 k4
  have hn0 : 256 ≤ node := hso.node0
  have HSO := Lib.hid hso
  obtain ⟨r, hrr⟩ : ∃ r : Bool, r = true ↔ known f up = true ∧ ¬ Anc f node up := by
    by_cases h : known f up = true ∧ ¬ Anc f node up
    · exact ⟨true, fun _ => h, fun _ => rfl⟩
    · exact ⟨false, fun e => (by cases e), fun e => absurd e h⟩
  have HR := Lib.hid hrr
  clear hrr hso
  go_cut [8] from 29 to 41 (fun bv wx => bv = .bool r ∧ Sat wx [own O (.cells #[.int .i64 on, .int .i64 or', .int .i64 node, .int .i64 up, .string name] 33 (0, 0)), treeP t f ds, rowT fO v 33 5 (ts.map ofT), oldH W, own M (.cells #[.int .u8 m.n, .int .u8 m.r, .int .u8 m.node, .int .u8 m.up, .int .u8 m.name] 24 (0, 0))] ∧ Kp W wx)
  case first =>
    have c2 := hO.cell 2
    have c3 := hO.cell 3
    simp at c2 c3
    go_wp2_with fail
    refine (tree_known (hO.pull 1)).mono ?_
    rintro e w6 ⟨rfl, h6, k6⟩
    cases hkn : known f up with
    | false =>
      have hr' : r = false := by
        cases r with
        | false => rfl
        | true => have := (HR.out.1 rfl).1; rw [hkn] at this; cases this
      subst hr'
      go_wp2_with fail
      go_meet
      case rel => exact ⟨rfl, h6.swap, kO.trans k6⟩
    | true =>
      have c2 := (h6.pull 1).cell 2
      have c3 := (h6.pull 1).cell 3
      simp at c2 c3
      have hab : (!r) = true ↔ known f up = true ∧ Anc f node up := by
        have := HR.out
        rw [hkn] at this ⊢
        cases r <;> simp_all
      obtain ⟨k0, hk0⟩ := HA.out up
      have hcall := tree_above h6 hk0 hab
      clear hab hkn hk0
      go_wp2_with fail
      refine hcall.mono ?_
      rintro e w7 ⟨rfl, h7, k7⟩
      go_wp2_with fail
      go_meet
      case rel => exact ⟨by simp, h7.swap, (kO.trans k6).trans k7⟩
  case rest =>
    clear hO kO
    obtain ⟨rfl, h5, k5⟩ := hcut
    go_wp2_with fail
    refine (tree_all (h5.pull 1) HF.out).mono ?_
    rintro e w6 ⟨S, kv, hS, rfl, h6, k6⟩
    have hkm : ∀ k ∈ isort klt (kidsOf (fun _ => true) S), f k.node = some ⟨k.up, k.name⟩ := fun k hk => kids_mem hS hk
    have hkl : (isort klt (kidsOf (fun _ => true) S)).length ≤ 8 := by
      rw [(isort_perm klt _).length_eq]
      exact Nat.le_trans (kidsOf_len _ _) (HF.out.length hS.mem hS.nodup)
    have HKS := Lib.hid (show ∀ S', Enum f S' → isort klt (kidsOf (fun _ => true) S') = isort klt (kidsOf (fun _ => true) S) from fun S' h' => kids_same h' hS _)
    generalize isort klt (kidsOf (fun _ => true) S) = ks at h6 hkl hkm HKS
    have HKM := Lib.hid hkm
    have k6 := k5.trans k6
    clear hS hkm h5 k5
    obtain ⟨kao, kcap, rfl⟩ := h6.tLen
    obtain ⟨q, hq⟩ : ∃ q, q = ks.length := ⟨_, rfl⟩
    rw [← hq] at h6 hkl ⊢
    have HQK := Lib.hid hq
    have hkl' : (q : Int) ≤ 8 := by omega
    clear hq
    have hmk := fun W => run_make_rowN (P := Tryd.prog) 54 4 i0 (.bool false) Tryd.underlying54 hi hz0 .i64 .i64 q q (Nat.le_refl _) (by rw [hz2]; omega) (by omega) W
    rw [hz1] at hmk
    have hU := (h6.alloc (.cells (madeCells #[.bool false] (q * 1)) 4)).tMade (f := fBo) false rfl (by omega) rfl (by unfold maxLen; omega)
    have kU := k6.alloc (.cells (madeCells #[.bool false] (q * 1)) 4)
    go_wp2_with fail
    simp only [Nat.mul_one] at hU kU
    generalize World.alloc _ _ = w7 at hU kU ⊢
    generalize w6.heap.size = ug at hU ⊢
    clear h6 k6 hmk
    go_loopw [11] (fun iv wr => ∃ (i : Nat) (us : List Bool), i ≤ q ∧ iv = .int .i64 i ∧ Hid (us.length = q) ∧ Hid (∀ j, j < i → ∀ k, ks[j]? = some k → us[j]? = some (ancB f node k.node)) ∧ Sat wr [rowT fBo (.slice (some ⟨ug, 0, none⟩) q q) 4 1 us, rowT fK (.slice kao q kcap) 39 3 ks, treeP t f ds, own O (.cells #[.int .i64 on, .int .i64 or', .int .i64 node, .int .i64 up, .string name] 33 (0, 0)), rowT fO v 33 5 (ts.map ofT), oldH W, own M (.cells #[.int .u8 m.n, .int .u8 m.r, .int .u8 m.node, .int .u8 m.up, .int .u8 m.name] 24 (0, 0))] ∧ Kp W wr) (fun iv _ => q - (intOf iv).toNat)
    case atStart => exact ⟨0, List.replicate q false, by omega, rfl, Lib.hid (by simp), Lib.hid (show ∀ j, j < 0 → ∀ k, ks[j]? = some k → (List.replicate q false)[j]? = some (ancB f node k.node) from fun j hj => absurd hj (Nat.not_lt_zero _)), hU, kU⟩
    case round =>
      clear hU kU
      obtain ⟨i, us, hiq, rfl, hul, hus, h2, k2⟩ := hrel
      by_cases hlt : i < q
      case pos =>
        obtain ⟨x, hx⟩ : ∃ x, ks[i]? = some x := ⟨ks[i]'(by rw [← HQK.out]; exact hlt), by simp⟩
        rcases (h2.pull 1).tForm with ⟨hv, hp⟩ | ⟨g, off, cap', hv⟩
        · rw [hp] at hx; simp at hx
        simp only [Value.slice.injEq] at hv
        obtain ⟨rfl, -, rfl⟩ := hv
        have x2 := (h2.pull 1).tCell len_fK i 2 hx rfl
        have c2 := (h2.pull 3).cell 2
        simp at c2
        have hfx := HKM.out x (List.mem_of_getElem? hx)
        obtain ⟨kx, hkx⟩ := HA.out x.node
        have hcall := fun nq => tree_above (r := ancB f node x.node) ((h2.pull 2).drewN nq) hkx ⟨fun e => ⟨by simp [known, hfx], ancB_iff.1 e⟩, fun e => ancB_iff.2 e.2⟩
        have hui : i < us.length := by rw [hul.out]; exact hlt
        obtain ⟨u0, hu0⟩ : ∃ u0, us[i]? = some u0 := ⟨us[i], by simp⟩
        have i0' : (0 : Int) ≤ (i : Int) := by omega
        have i1' : (i : Int) < (q : Int) := by omega
        have HX := Lib.hid hx
        have HU0 := Lib.hid hu0
        have HUI := Lib.hid hui
        have hus' : Hid (∀ j, j < i + 1 → ∀ k, ks[j]? = some k → (us.set i (ancB f node x.node))[j]? = some (ancB f node k.node)) := by
          refine Lib.hid ?_
          intro j hj k hk
          by_cases hji : j = i
          · subst hji
            rw [hx] at hk
            cases hk
            exact get_set_self hui
          · rw [get_set_ne (by omega)]
            exact hus.out j (by omega) k hk
        clear hx hfx hkx hu0 hui
        have n1 : ug ≠ O := (h2.pull 3).swap.rowNe
        have n1' : O ≠ ug := n1.symm
        have n2 : ug ≠ g := Sat.rowsNe h2
        have n2' : g ≠ ug := n2.symm
        go_upto_region 14 with (fail)
        go_region_held3 (fun w' => w'.cell? ⟨O, 2, none⟩ = some (.int .i64 node) ∧ w'.cell? ⟨g, off + i * 3 + 2, none⟩ = some (.int .i64 x.node)) (first | go_keep | exact ⟨c2, x2⟩ | exact ⟨own_node (h3.pull 3), (h3.pull 2).tCell len_fK i 2 HX.out rfl⟩)
          ((go_at_call 17; refine (hcall 1).mono ?_; rintro e w3 ⟨rfl, h3, k3⟩; have z0 := (h3.pull 1).tCell len_fBo i 0 HU0.out rfl; have z1 := (h3.pull 1).rowFree (i * 1); rw [Nat.add_zero] at z0; simp at z0 z1; have q0 := own_node (h3.pull 3); have q1 := (h3.pull 2).tCell len_fK i 2 HX.out rfl))
        have h4 := (h3.pull 1).tSet1 len_fBo i (ancB f node x.node) HUI.out rfl
        rw [Nat.zero_add] at h4
        have k4 := ((k2.drewN 1).trans k3).setCell ⟨ug, i, none⟩ (.bool (ancB f node x.node))
        clear x2 c2 h2 k2
        go_wp2_with fail
        go_roundw
        case rel => exact ⟨i + 1, us.set i (ancB f node x.node), by omega, by go_num, Lib.hid (by rw [List.length_set]; exact hul.out), hus', (h4.pull 2).swap, k4⟩
        case measure => simp [intOf]; omega
      obtain rfl : q = i := by omega
      have HUS := Lib.hid (show ∀ j, j < q → ∀ k, ks[j]? = some k → us[j]? = some (ancB f node k.node) from hus.out)
      clear hus
      have c0 := (h2.pull 3).cell 0
      have c1 := (h2.pull 3).cell 1
      have c2 := (h2.pull 3).cell 2
      have c3 := (h2.pull 3).cell 3
      have c4 := (h2.pull 3).cell 4
      simp at c0 c1 c2 c3 c4
      have hcall := tree_apply (o := ⟨on, or', node, up, name⟩) (r := r) (h2.pull 2) HA.out (isRight_small HSO.out) HR.out HD.out
      have hA' : Acyc (applied f ⟨on, or', node, up, name⟩ r) := by
        cases r with
        | false => exact HA.out
        | true => exact HA.out.put (HR.out.1 rfl).2
      have hF' : Few (applied f ⟨on, or', node, up, name⟩ r) := by
        cases r with
        | false => exact HF.out
        | true => exact HF.out.put HSO.out.node0 HSO.out.node1
      have hAn : ∀ b, Anc (applied f ⟨on, or', node, up, name⟩ r) node b ↔ Anc f node b := fun b => anc_applied (o := ⟨on, or', node, up, name⟩)
      have hin : ∀ k ∈ ks, k.node ≠ node ∨ r = false → applied f ⟨on, or', node, up, name⟩ r k.node = some ⟨k.up, k.name⟩ := fun k hk h => by
        cases r with
        | false => exact HKM.out k hk
        | true =>
          rcases h with h | h
          · show upd f node _ k.node = _
            rw [upd_other h]
            exact HKM.out k hk
          · cases h
      have hat : r = true → applied f ⟨on, or', node, up, name⟩ r node = some ⟨up, name⟩ := fun h => by
        subst h
        exact upd_same _ _ _
      have hof : r = false → applied f ⟨on, or', node, up, name⟩ r = f := fun h => by
        subst h
        rfl
      have hrne : (r != r) = false := by cases r <;> rfl
      simp only [aggO] at hcall
      go_wp2_with fail
      refine hcall.mono ?_
      rintro e w8 ⟨rfl, h3, k3⟩
      have k3 := k2.trans k3
      clear hcall c0 c1 c2 c3 c4 h2 k2
      have h3 : Sat w8 (treeP t (applied f ⟨on, or', node, up, name⟩ r) _ :: _) := h3
      generalize ds ++ _ = ds' at h3
      generalize applied f ⟨on, or', node, up, name⟩ r = f' at h3 hA' hF' hAn hin hat hof
      have HA' := Lib.hid hA'
      have HF' := Lib.hid hF'
      have HAN := Lib.hid hAn
      have HIN := Lib.hid hin
      have HAT := Lib.hid hat
      have HOF := Lib.hid hof
      clear hA' hF' hAn hin hat hof
      go_wp2_with fail
      go_loopw [13] (fun iv wr => ∃ i : Nat, i ≤ q ∧ iv = .int .i64 i ∧ Sat wr [treeP t f' ds', rowT fBo (.slice (some ⟨ug, 0, none⟩) q q) 4 1 us, rowT fK (.slice kao q kcap) 39 3 ks, own O (.cells #[.int .i64 on, .int .i64 or', .int .i64 node, .int .i64 up, .string name] 33 (0, 0)), rowT fO v 33 5 (ts.map ofT), oldH W, own M (.cells #[.int .u8 m.n, .int .u8 m.r, .int .u8 m.node, .int .u8 m.up, .int .u8 m.name] 24 (0, 0))] ∧ Kp W wr) (fun iv _ => q - (intOf iv).toNat)
      case atStart => exact ⟨0, by omega, rfl, h3, k3⟩
      case round =>
        clear h3 k3
        obtain ⟨i, hiq, rfl, h2, k2⟩ := hrel
        by_cases hlt : i < q
        case pos =>
          obtain ⟨x, hx⟩ : ∃ x, ks[i]? = some x := ⟨ks[i]'(by rw [← HQK.out]; exact hlt), by simp⟩
          rcases (h2.pull 2).tForm with ⟨hv, hp⟩ | ⟨g, off, cap', hv⟩
          · rw [hp] at hx; simp at hx
          simp only [Value.slice.injEq] at hv
          obtain ⟨rfl, -, rfl⟩ := hv
          have x2 := (h2.pull 2).tCell len_fK i 2 hx rfl
          have i0' : (0 : Int) ≤ (i : Int) := by omega
          have i1' : (i : Int) < (q : Int) := by omega
          have HX := Lib.hid hx
          obtain ⟨kx, hkx⟩ := HA'.out x.node
          have hxin := List.mem_of_getElem? hx
          have hua := HUS.out i hlt x hx
          have HUA := Lib.hid hua
          obtain ⟨loc, hloc⟩ : ∃ loc, f' x.node = some loc := by
            by_cases h : x.node ≠ node ∨ r = false
            · exact ⟨_, HIN.out x hxin h⟩
            · have h1 : x.node = node := by
                by_cases e : x.node = node
                · exact e
                · exact absurd (.inl e) h
              have h2 : r = true := by
                cases r with
                | true => rfl
                | false => exact absurd (.inr rfl) h
              rw [h1]
              exact ⟨_, HAT.out h2⟩
          have hab : ancB f node x.node = true ↔ known f' x.node = true ∧ Anc f' node x.node := by
            rw [HAN.out, ancB_iff]
            exact ⟨fun h => ⟨by simp [known, hloc], h⟩, fun h => h.2⟩
          have HAB := Lib.hid hab
          have HKX := Lib.hid hkx
          have hcase : (x.node ≠ node ∧ loc = ⟨x.up, x.name⟩) ∨ (x.node = node ∧ r = false ∧ loc = ⟨x.up, x.name⟩ ∧ ancB f node x.node = true) ∨ (x.node = node ∧ r = true ∧ ancB f node x.node = true) := by
            by_cases e : x.node = node
            · have ha : ancB f node x.node = true := ancB_iff.2 (by rw [e]; exact .here)
              cases r with
              | true => exact .inr (.inr ⟨e, rfl, ha⟩)
              | false =>
                have := HIN.out x hxin (.inr rfl)
                rw [hloc] at this
                exact .inr (.inl ⟨e, rfl, Option.some.inj this, ha⟩)
            · have := HIN.out x hxin (.inl e)
              rw [hloc] at this
              exact .inl ⟨e, Option.some.inj this⟩
          have HCA := Lib.hid hcase
          have HLOC := Lib.hid hloc
          clear hx hkx hxin hua hab hcase hloc
          go_wp2_with fail
          refine (tree_spot h2).mono ?_
          rintro e w9 ⟨rfl, h4, k4⟩
          have k4 := k2.trans k4
          rw [HLOC.out]
          simp only [vL]
          have hP := h4.alloc (.cells #[.bool true, .int .i64 loc.up, .string loc.name] 49)
          have kP := k4.alloc (.cells #[.bool true, .int .i64 loc.up, .string loc.name] 49)
          go_upto_region 23 with (fail)
          generalize World.alloc _ _ = w10 at hP kP ⊢
          generalize w9.heap.size = P at hP ⊢
          clear x2 h2 k2 h4 k4
          have p0 := hP.cell 0
          have p1 := hP.cell 1
          have p2 := hP.cell 2
          simp at p0 p1 p2
          have x0 := (hP.pull 3).tCell len_fK i 0 HX.out rfl
          have x1 := (hP.pull 3).tCell len_fK i 1 HX.out rfl
          rw [Nat.add_zero] at x0
          go_cut [16] from 85 to 106 (fun sv wx => ∃ st : Bool, sv = .bool st ∧ Hid (loc = ⟨x.up, x.name⟩ → st = true) ∧ Sat wx [own P (.cells #[.bool true, .int .i64 loc.up, .string loc.name] 49 (0, 0)), treeP t f' ds', rowT fBo (.slice (some ⟨ug, 0, none⟩) q q) 4 1 us, rowT fK (.slice (some ⟨g, off, none⟩) q kcap) 39 3 ks, own O (.cells #[.int .i64 on, .int .i64 or', .int .i64 node, .int .i64 up, .string name] 33 (0, 0)), rowT fO v 33 5 (ts.map ofT), oldH W, own M (.cells #[.int .u8 m.n, .int .u8 m.r, .int .u8 m.node, .int .u8 m.up, .int .u8 m.name] 24 (0, 0))] ∧ Kp W wx)
          case first =>
            cases e1 : (loc.up == x.up) with
            | false =>
              go_quiet (fail)
              go_wp2_with fail
              go_meet
              case rel => exact ⟨false, rfl, Lib.hid (fun h => by rw [h] at e1; simp at e1), hP.drewN _, kP.drewN _⟩
            | true =>
              cases e2 : (loc.name.toList == x.name.toList) with
              | false =>
                go_quiet (fail)
                go_wp2_with fail
                go_meet
                case rel => exact ⟨false, rfl, Lib.hid (fun h => by rw [h] at e2; simp at e2), hP.drewN _, kP.drewN _⟩
              | true =>
                go_quiet (fail)
                go_wp2_with fail
                go_meet
                case rel => exact ⟨true, rfl, Lib.hid (fun _ => rfl), hP.drewN _, kP.drewN _⟩
          case rest =>
            clear hP kP p0 p1 p2 x0 x1
            obtain ⟨st, rfl, hst, h5, k5⟩ := hcut
            have c2 := own_node (h5.pull 4)
            have ui := bool_at (h5.pull 2) HUA.out
            rcases HCA.out with ⟨hne, hl⟩ | ⟨heq, hrf, hl, ha⟩ | ⟨heq, hrt, ha⟩
            · have hs := hst.out hl
              subst hs
              have t1 : (x.node != node) = true := by simpa using hne
              have t2 : (x.node == node) = false := by simpa using hne
              generalize ancB f node x.node = a at HUA HAB ui
              clear hne hl hst HCA
              cases a with
              | true =>
                go_upto_region 24 with (fail)
                refine wp_region_held_drew (S := (fun w' => w'.cell? ⟨O, 2, none⟩ = some (.int .i64 node) ∧ w'.cell? ⟨ug, i, none⟩ = some (.bool true))) (by kernel_rfl) ?_ (fun hHeld => ?_)
                · exact ⟨c2, ui⟩
                refine heldAt (i := 0) (oi := ?oi1) ?hi1 (fun hop => ?_)
                case hi1 => simp only [List.getElem?_toArray, List.getElem?_cons_succ, List.getElem?_cons_zero]; exact rfl
                refine wpAnyH_take (i := 0) (v := ?_) hop (by kernel_rfl) (by kernel_rfl) (by kernel_rfl) (fun _ _ _ h => h) (Or.inl ⟨by rfl, ?hy1⟩) (by assumption) ?_
                case hy1 =>
                  intro w hSw
                  try dsimp only at hSw
                  go_simp
                  try with_reducible rfl
                clear hop
                try simp only [Act.put, List.setIfInBounds_toArray, List.set_cons_zero, List.set_cons_succ]
                refine heldAt (i := 1) (oi := ?oi2) ?hi2 (fun hop => ?_)
                case hi2 => simp only [List.getElem?_toArray, List.getElem?_cons_succ, List.getElem?_cons_zero]; exact rfl
                refine wpAnyH_take (i := 1) (v := ?_) hop (by kernel_rfl) (by kernel_rfl) (by kernel_rfl) (fun _ _ _ h => h) (Or.inl ⟨by rfl, ?hy2⟩) (by assumption) ?_
                case hy2 =>
                  intro w hSw
                  try dsimp only at hSw
                  go_simp
                  try with_reducible rfl
                clear hop
                try simp only [Act.put, List.setIfInBounds_toArray, List.set_cons_zero, List.set_cons_succ]
                refine heldAt (i := 2) (oi := ?oi3) ?hi3 (fun hop => ?_)
                case hi3 => simp only [List.getElem?_toArray, List.getElem?_cons_succ, List.getElem?_cons_zero]; exact rfl
                refine wpAnyH_take (i := 2) (v := ?_) hop (by kernel_rfl) (by kernel_rfl) (by kernel_rfl) (fun _ _ _ h => h) (Or.inl ⟨by rfl, ?hy3⟩) (by assumption) ?_
                case hy3 =>
                  intro w hSw
                  try dsimp only at hSw
                  go_simp
                  try with_reducible rfl
                clear hop
                try simp only [Act.put, List.setIfInBounds_toArray, List.set_cons_zero, List.set_cons_succ]
                refine heldAt (i := 3) (oi := ?oi4) ?hi4 (fun hop => ?_)
                case hi4 => simp only [List.getElem?_toArray, List.getElem?_cons_succ, List.getElem?_cons_zero]; exact rfl
                refine wpAnyH_take (i := 3) (v := ?_) hop (by kernel_rfl) (by kernel_rfl) (by kernel_rfl) (fun _ _ _ h => h) (Or.inl ⟨by rfl, ?hy4⟩) (by assumption) ?_
                case hy4 =>
                  intro w hSw
                  try dsimp only at hSw
                  go_simp
                  try with_reducible rfl
                clear hop
                try simp only [Act.put, List.setIfInBounds_toArray, List.set_cons_zero, List.set_cons_succ]
                refine heldAt (i := 4) (oi := ?oi5) ?hi5 (fun hop => ?_)
                case hi5 => simp only [List.getElem?_toArray, List.getElem?_cons_succ, List.getElem?_cons_zero]; exact rfl
                refine wpAnyH_take (i := 4) (v := ?_) hop (by kernel_rfl) (by kernel_rfl) (by kernel_rfl) (fun _ _ _ h => h) (Or.inl ⟨by rfl, ?hy5⟩) (by assumption) ?_
                case hy5 =>
                  intro w hSw
                  try dsimp only at hSw
                  go_simp
                  try with_reducible rfl
                clear hop
                try simp only [Act.put, List.setIfInBounds_toArray, List.set_cons_zero, List.set_cons_succ]
                refine heldAt (i := 5) (oi := ?oi6) ?hi6 (fun hop => ?_)
                case hi6 => simp only [List.getElem?_toArray, List.getElem?_cons_succ, List.getElem?_cons_zero]; exact rfl
                refine wpAnyH_take (i := 5) (v := undef) hop (by kernel_rfl) (by kernel_rfl) (by kernel_rfl) (fun _ _ _ h => h) (Or.inr ⟨by rfl, rfl⟩) (by assumption) ?_
                clear hop
                try simp only [Act.put, List.setIfInBounds_toArray, List.set_cons_zero, List.set_cons_succ]
                refine heldAt (i := 6) (oi := ?oi7) ?hi7 (fun hop => ?_)
                case hi7 => simp only [List.getElem?_toArray, List.getElem?_cons_succ, List.getElem?_cons_zero]; exact rfl
                refine wpAnyH_take (i := 6) (v := undef) hop (by kernel_rfl) (by kernel_rfl) (by kernel_rfl) (fun _ _ _ h => h) (Or.inr ⟨by rfl, rfl⟩) (by assumption) ?_
                clear hop
                try simp only [Act.put, List.setIfInBounds_toArray, List.set_cons_zero, List.set_cons_succ]
                refine heldAt (i := 7) (oi := ?oi8) ?hi8 (fun hop => ?_)
                case hi8 => simp only [List.getElem?_toArray, List.getElem?_cons_succ, List.getElem?_cons_zero]; exact rfl
                refine wpAnyH_take (i := 7) (v := ?_) hop (by kernel_rfl) (by kernel_rfl) (by kernel_rfl) (fun _ _ _ h => h) (Or.inl ⟨by rfl, ?hy8⟩) (by assumption) ?_
                case hy8 =>
                  intro w hSw
                  try dsimp only at hSw
                  go_simp
                  try with_reducible rfl
                clear hop
                try simp only [Act.put, List.setIfInBounds_toArray, List.set_cons_zero, List.set_cons_succ]
                refine heldAt (i := 8) (oi := ?oi9) ?hi9 (fun hop => ?_)
                case hi9 => simp only [List.getElem?_toArray, List.getElem?_cons_succ, List.getElem?_cons_zero]; exact rfl
                refine wpAnyH_take (i := 8) (v := ?_) hop (by kernel_rfl) (by kernel_rfl) (by kernel_rfl) (fun _ _ _ h => h) (Or.inl ⟨by rfl, ?hy9⟩) (by assumption) ?_
                case hy9 =>
                  intro w hSw
                  try dsimp only at hSw
                  go_simp
                  try with_reducible rfl
                clear hop
                try simp only [Act.put, List.setIfInBounds_toArray, List.set_cons_zero, List.set_cons_succ]
                refine heldAt (i := 9) (oi := ?oi10) ?hi10 (fun hop => ?_)
                case hi10 => simp only [List.getElem?_toArray, List.getElem?_cons_succ, List.getElem?_cons_zero]; exact rfl
                refine wpAnyH_take (i := 9) (v := ?_) hop (by kernel_rfl) (by kernel_rfl) (by kernel_rfl) (fun _ _ _ h => h) (Or.inl ⟨by rfl, ?hy10⟩) (by assumption) ?_
                case hy10 =>
                  intro w hSw
                  try dsimp only at hSw
                  go_simp
                  try with_reducible rfl
                clear hop
                try simp only [Act.put, List.setIfInBounds_toArray, List.set_cons_zero, List.set_cons_succ]
                refine heldAt (i := 10) (oi := ?oi11) ?hi11 (fun hop => ?_)
                case hi11 => simp only [List.getElem?_toArray, List.getElem?_cons_succ, List.getElem?_cons_zero]; exact rfl
                refine wpAnyH_take (i := 10) (v := ?_) hop (by kernel_rfl) (by kernel_rfl) (by kernel_rfl) (fun _ _ _ h => h) (Or.inl ⟨by rfl, ?hy11⟩) (by assumption) ?_
                case hy11 =>
                  intro w hSw
                  try dsimp only at hSw
                  go_simp
                  try with_reducible rfl
                clear hop
                try simp only [Act.put, List.setIfInBounds_toArray, List.set_cons_zero, List.set_cons_succ]
                refine heldAt (i := 11) (oi := ?oi12) ?hi12 (fun hop => ?_)
                case hi12 => simp only [List.getElem?_toArray, List.getElem?_cons_succ, List.getElem?_cons_zero]; exact rfl
                refine wpAnyH_take (i := 11) (v := ?_) hop (by kernel_rfl) (by kernel_rfl) (by kernel_rfl) (fun _ _ _ h => h) (Or.inl ⟨by rfl, ?hy12⟩) (by assumption) ?_
                case hy12 =>
                  intro w hSw
                  try dsimp only at hSw
                  go_simp
                  try with_reducible rfl
                clear hop
                try simp only [Act.put, List.setIfInBounds_toArray, List.set_cons_zero, List.set_cons_succ]
                refine heldAt (i := 12) (oi := ?oi13) ?hi13 (fun hop => ?_)
                case hi13 => simp only [List.getElem?_toArray, List.getElem?_cons_succ, List.getElem?_cons_zero]; exact rfl
                refine wpAnyH_take (i := 12) (v := ?_) hop (by kernel_rfl) (by kernel_rfl) (by kernel_rfl) (fun _ _ _ h => h) (Or.inl ⟨by rfl, ?hy13⟩) (by assumption) ?_
                case hy13 =>
                  intro w hSw
                  try dsimp only at hSw
                  go_simp
                  try with_reducible rfl
                clear hop
                try simp only [Act.put, List.setIfInBounds_toArray, List.set_cons_zero, List.set_cons_succ]
                refine heldAt (i := 13) (oi := ?oi14) ?hi14 (fun hop => ?_)
                case hi14 => simp only [List.getElem?_toArray, List.getElem?_cons_succ, List.getElem?_cons_zero]; exact rfl
                refine wpAnyH_take (i := 13) (v := ?_) hop (by kernel_rfl) (by kernel_rfl) (by kernel_rfl) (fun _ _ _ h => h) (Or.inl ⟨by rfl, ?hy14⟩) (by assumption) ?_
                case hy14 =>
                  intro w hSw
                  try dsimp only at hSw
                  go_simp
                  try with_reducible rfl
                clear hop
                try simp only [Act.put, List.setIfInBounds_toArray, List.set_cons_zero, List.set_cons_succ]
                refine heldAt (i := 14) (oi := ?oi15) ?hi15 (fun hop => ?_)
                case hi15 => simp only [List.getElem?_toArray, List.getElem?_cons_succ, List.getElem?_cons_zero]; exact rfl
                refine wpAnyH_take (i := 14) (v := ?_) hop (by kernel_rfl) (by kernel_rfl) (by kernel_rfl) (fun _ _ _ h => h) (Or.inl ⟨by rfl, ?hy15⟩) (by assumption) ?_
                case hy15 =>
                  intro w hSw
                  try dsimp only at hSw
                  go_simp
                  try with_reducible rfl
                clear hop
                try simp only [Act.put, List.setIfInBounds_toArray, List.set_cons_zero, List.set_cons_succ]
                refine heldAt (i := 15) (oi := ?oi16) ?hi16 (fun hop => ?_)
                case hi16 => simp only [List.getElem?_toArray, List.getElem?_cons_succ, List.getElem?_cons_zero]; exact rfl
                refine wpAnyH_take (i := 15) (v := ?_) hop (by kernel_rfl) (by kernel_rfl) (by kernel_rfl) (fun _ _ _ h => h) (Or.inl ⟨by rfl, ?hy16⟩) (by assumption) ?_
                case hy16 =>
                  intro w hSw
                  try dsimp only at hSw
                  go_simp
                  try with_reducible rfl
                clear hop
                try simp only [Act.put, List.setIfInBounds_toArray, List.set_cons_zero, List.set_cons_succ]
                refine heldAt (i := 16) (oi := ?oi17) ?hi17 (fun hop => ?_)
                case hi17 => simp only [List.getElem?_toArray, List.getElem?_cons_succ, List.getElem?_cons_zero]; exact rfl
                refine wpAnyH_take (i := 16) (v := ?_) hop (by kernel_rfl) (by kernel_rfl) (by kernel_rfl) (fun _ _ _ h => h) (Or.inl ⟨by rfl, ?hy17⟩) (by assumption) ?_
                case hy17 =>
                  intro w hSw
                  try dsimp only at hSw
                  go_simp
                  try with_reducible rfl
                clear hop
                try simp only [Act.put, List.setIfInBounds_toArray, List.set_cons_zero, List.set_cons_succ]
                refine heldAt (i := 18) (oi := ?oi18) ?hi18 (fun hop => ?_)
                case hi18 => simp only [List.getElem?_toArray, List.getElem?_cons_succ, List.getElem?_cons_zero]; exact rfl
                refine wpAnyH_take (i := 18) (v := ?_) hop (by kernel_rfl) (by kernel_rfl) (by kernel_rfl) (fun _ _ _ h => h) (Or.inl ⟨by rfl, ?hy18⟩) (by assumption) ?_
                case hy18 =>
                  intro w hSw
                  try dsimp only at hSw
                  go_simp
                  try with_reducible rfl
                clear hop
                try simp only [Act.put, List.setIfInBounds_toArray, List.set_cons_zero, List.set_cons_succ]
                refine heldAt (i := 19) (oi := ?oi19) ?hi19 (fun hop => ?_)
                case hi19 => simp only [List.getElem?_toArray, List.getElem?_cons_succ, List.getElem?_cons_zero]; exact rfl
                refine wpAnyH_take (i := 19) (v := ?_) hop (by kernel_rfl) (by kernel_rfl) (by kernel_rfl) (fun _ _ _ h => h) (Or.inl ⟨by rfl, ?hy19⟩) (by assumption) ?_
                case hy19 =>
                  intro w hSw
                  try dsimp only at hSw
                  go_simp
                  try with_reducible rfl
                clear hop
                try simp only [Act.put, List.setIfInBounds_toArray, List.set_cons_zero, List.set_cons_succ]
                refine heldAt (i := 20) (oi := ?oi20) ?hi20 (fun hop => ?_)
                case hi20 => simp only [List.getElem?_toArray, List.getElem?_cons_succ, List.getElem?_cons_zero]; exact rfl
                refine wpAnyH_take (i := 20) (v := ?_) hop (by kernel_rfl) (by kernel_rfl) (by kernel_rfl) (fun _ _ _ h => h) (Or.inl ⟨by rfl, ?hy20⟩) (by assumption) ?_
                case hy20 =>
                  intro w hSw
                  try dsimp only at hSw
                  go_simp
                  try with_reducible rfl
                clear hop
                try simp only [Act.put, List.setIfInBounds_toArray, List.set_cons_zero, List.set_cons_succ]
                refine heldAt (i := 21) (oi := ?oi21) ?hi21 (fun hop => ?_)
                case hi21 => simp only [List.getElem?_toArray, List.getElem?_cons_succ, List.getElem?_cons_zero]; exact rfl
                refine wpAnyH_take (i := 21) (v := ?_) hop (by kernel_rfl) (by kernel_rfl) (by kernel_rfl) (fun _ _ _ h => h) (Or.inl ⟨by rfl, ?hy21⟩) (by assumption) ?_
                case hy21 =>
                  intro w hSw
                  try dsimp only at hSw
                  go_simp
                  try with_reducible rfl
                clear hop
                try simp only [Act.put, List.setIfInBounds_toArray, List.set_cons_zero, List.set_cons_succ]
                refine heldAt (i := 17) (oi := ?oi22) ?hi22 (fun hop => ?_)
                case hi22 => simp only [List.getElem?_toArray, List.getElem?_cons_succ, List.getElem?_cons_zero]; exact rfl
                refine wpAnyH_ready (rs := [17]) (by kernel_rfl) (by simp) ?_
                refine AllReadyH.cons hop (fun K hK => ?_) AllReadyH.nil
                clear hop
                go_simp
                (refine (tree_above (r := true) ((h5.pull 1).drewN 1) HKX.out HAB.out).mono ?_; rintro e w11 ⟨rfl, h6, k6⟩)
                refine hK.out _ _ ?_ (fun hHeld => ?_)
                · exact ⟨own_node (h6.pull 4), bool_at (h6.pull 2) HUA.out⟩
                clear hK K
                try simp only [Act.put, List.setIfInBounds_toArray, List.set_cons_zero, List.set_cons_succ]
                refine heldAt (i := 22) (oi := ?oi23) ?hi23 (fun hop => ?_)
                case hi23 => simp only [List.getElem?_toArray, List.getElem?_cons_succ, List.getElem?_cons_zero]; exact rfl
                refine wpAnyH_take (i := 22) (v := ?_) hop (by kernel_rfl) (by kernel_rfl) (by kernel_rfl) (fun _ _ _ h => h) (Or.inl ⟨by rfl, ?hy23⟩) (by assumption) ?_
                case hy23 =>
                  intro w hSw
                  try dsimp only at hSw
                  go_simp
                  try with_reducible rfl
                clear hop
                try simp only [Act.put, List.setIfInBounds_toArray, List.set_cons_zero, List.set_cons_succ]
                refine heldAt (i := 23) (oi := ?oi24) ?hi24 (fun hop => ?_)
                case hi24 => simp only [List.getElem?_toArray, List.getElem?_cons_succ, List.getElem?_cons_zero]; exact rfl
                refine wpAnyH_take (i := 23) (v := undef) hop (by kernel_rfl) (by kernel_rfl) (by kernel_rfl) (fun _ _ _ h => h) (Or.inr ⟨by rfl, rfl⟩) (by assumption) ?_
                clear hop
                try simp only [Act.put, List.setIfInBounds_toArray, List.set_cons_zero, List.set_cons_succ]
                refine heldAt (i := 24) (oi := ?oi25) ?hi25 (fun hop => ?_)
                case hi25 => simp only [List.getElem?_toArray, List.getElem?_cons_succ, List.getElem?_cons_zero]; exact rfl
                refine wpAnyH_take (i := 24) (v := undef) hop (by kernel_rfl) (by kernel_rfl) (by kernel_rfl) (fun _ _ _ h => h) (Or.inr ⟨by rfl, rfl⟩) (by assumption) ?_
                clear hop
                try simp only [Act.put, List.setIfInBounds_toArray, List.set_cons_zero, List.set_cons_succ]
                refine heldAt (i := 25) (oi := ?oi26) ?hi26 (fun hop => ?_)
                case hi26 => simp only [List.getElem?_toArray, List.getElem?_cons_succ, List.getElem?_cons_zero]; exact rfl
                refine wpAnyH_take (i := 25) (v := undef) hop (by kernel_rfl) (by kernel_rfl) (by kernel_rfl) (fun _ _ _ h => h) (Or.inr ⟨by rfl, rfl⟩) (by assumption) ?_
                clear hop
                try simp only [Act.put, List.setIfInBounds_toArray, List.set_cons_zero, List.set_cons_succ]
                refine heldAt (i := 26) (oi := ?oi27) ?hi27 (fun hop => ?_)
                case hi27 => simp only [List.getElem?_toArray, List.getElem?_cons_succ, List.getElem?_cons_zero]; exact rfl
                refine wpAnyH_take (i := 26) (v := undef) hop (by kernel_rfl) (by kernel_rfl) (by kernel_rfl) (fun _ _ _ h => h) (Or.inr ⟨by rfl, rfl⟩) (by assumption) ?_
                clear hop
                try simp only [Act.put, List.setIfInBounds_toArray, List.set_cons_zero, List.set_cons_succ]
                refine heldAt (i := 27) (oi := ?oi28) ?hi28 (fun hop => ?_)
                case hi28 => simp only [List.getElem?_toArray, List.getElem?_cons_succ, List.getElem?_cons_zero]; exact rfl
                refine wpAnyH_take (i := 27) (v := ?_) hop (by kernel_rfl) (by kernel_rfl) (by kernel_rfl) (fun _ _ _ h => h) (Or.inl ⟨by rfl, ?hy28⟩) (by assumption) ?_
                case hy28 =>
                  intro w hSw
                  try dsimp only at hSw
                  go_simp
                  try with_reducible rfl
                clear hop
                try simp only [Act.put, List.setIfInBounds_toArray, List.set_cons_zero, List.set_cons_succ]
                refine heldAt (i := 28) (oi := ?oi29) ?hi29 (fun hop => ?_)
                case hi29 => simp only [List.getElem?_toArray, List.getElem?_cons_succ, List.getElem?_cons_zero]; exact rfl
                refine wpAnyH_take (i := 28) (v := ?_) hop (by kernel_rfl) (by kernel_rfl) (by kernel_rfl) (fun _ _ _ h => h) (Or.inl ⟨by rfl, ?hy29⟩) (by assumption) ?_
                case hy29 =>
                  intro w hSw
                  try dsimp only at hSw
                  go_simp
                  try with_reducible rfl
                clear hop
                try simp only [Act.put, List.setIfInBounds_toArray, List.set_cons_zero, List.set_cons_succ]
                refine heldAt (i := 29) (oi := ?oi30) ?hi30 (fun hop => ?_)
                case hi30 => simp only [List.getElem?_toArray, List.getElem?_cons_succ, List.getElem?_cons_zero]; exact rfl
                refine wpAnyH_take (i := 29) (v := ?_) hop (by kernel_rfl) (by kernel_rfl) (by kernel_rfl) (fun _ _ _ h => h) (Or.inl ⟨by rfl, ?hy30⟩) (by assumption) ?_
                case hy30 =>
                  intro w hSw
                  try dsimp only at hSw
                  go_simp
                  try with_reducible rfl
                clear hop
                try simp only [Act.put, List.setIfInBounds_toArray, List.set_cons_zero, List.set_cons_succ]
                refine wpAnyH_done (by kernel_rfl) ?_ _
                clear c2 ui
                go_wp2_with fail
                go_roundw
                case rel => exact ⟨i + 1, by omega, by go_num, (h6.pull 1).tail, (k5.drewN 1).trans k6⟩
                case measure => simp [intOf]; omega
              | false =>
                go_upto_region 24 with (fail)
                refine wp_region_held_drew (S := (fun w' => w'.cell? ⟨O, 2, none⟩ = some (.int .i64 node) ∧ w'.cell? ⟨ug, i, none⟩ = some (.bool false))) (by kernel_rfl) ?_ (fun hHeld => ?_)
                · exact ⟨c2, ui⟩
                refine heldAt (i := 0) (oi := ?oi31) ?hi31 (fun hop => ?_)
                case hi31 => simp only [List.getElem?_toArray, List.getElem?_cons_succ, List.getElem?_cons_zero]; exact rfl
                refine wpAnyH_take (i := 0) (v := ?_) hop (by kernel_rfl) (by kernel_rfl) (by kernel_rfl) (fun _ _ _ h => h) (Or.inl ⟨by rfl, ?hy31⟩) (by assumption) ?_
                case hy31 =>
                  intro w hSw
                  try dsimp only at hSw
                  go_simp
                  try with_reducible rfl
                clear hop
                try simp only [Act.put, List.setIfInBounds_toArray, List.set_cons_zero, List.set_cons_succ]
                refine heldAt (i := 1) (oi := ?oi32) ?hi32 (fun hop => ?_)
                case hi32 => simp only [List.getElem?_toArray, List.getElem?_cons_succ, List.getElem?_cons_zero]; exact rfl
                refine wpAnyH_take (i := 1) (v := ?_) hop (by kernel_rfl) (by kernel_rfl) (by kernel_rfl) (fun _ _ _ h => h) (Or.inl ⟨by rfl, ?hy32⟩) (by assumption) ?_
                case hy32 =>
                  intro w hSw
                  try dsimp only at hSw
                  go_simp
                  try with_reducible rfl
                clear hop
                try simp only [Act.put, List.setIfInBounds_toArray, List.set_cons_zero, List.set_cons_succ]
                refine heldAt (i := 2) (oi := ?oi33) ?hi33 (fun hop => ?_)
                case hi33 => simp only [List.getElem?_toArray, List.getElem?_cons_succ, List.getElem?_cons_zero]; exact rfl
                refine wpAnyH_take (i := 2) (v := ?_) hop (by kernel_rfl) (by kernel_rfl) (by kernel_rfl) (fun _ _ _ h => h) (Or.inl ⟨by rfl, ?hy33⟩) (by assumption) ?_
                case hy33 =>
                  intro w hSw
                  try dsimp only at hSw
                  go_simp
                  try with_reducible rfl
                clear hop
                try simp only [Act.put, List.setIfInBounds_toArray, List.set_cons_zero, List.set_cons_succ]
                refine heldAt (i := 3) (oi := ?oi34) ?hi34 (fun hop => ?_)
                case hi34 => simp only [List.getElem?_toArray, List.getElem?_cons_succ, List.getElem?_cons_zero]; exact rfl
                refine wpAnyH_take (i := 3) (v := ?_) hop (by kernel_rfl) (by kernel_rfl) (by kernel_rfl) (fun _ _ _ h => h) (Or.inl ⟨by rfl, ?hy34⟩) (by assumption) ?_
                case hy34 =>
                  intro w hSw
                  try dsimp only at hSw
                  go_simp
                  try with_reducible rfl
                clear hop
                try simp only [Act.put, List.setIfInBounds_toArray, List.set_cons_zero, List.set_cons_succ]
                refine heldAt (i := 4) (oi := ?oi35) ?hi35 (fun hop => ?_)
                case hi35 => simp only [List.getElem?_toArray, List.getElem?_cons_succ, List.getElem?_cons_zero]; exact rfl
                refine wpAnyH_take (i := 4) (v := ?_) hop (by kernel_rfl) (by kernel_rfl) (by kernel_rfl) (fun _ _ _ h => h) (Or.inl ⟨by rfl, ?hy35⟩) (by assumption) ?_
                case hy35 =>
                  intro w hSw
                  try dsimp only at hSw
                  go_simp
                  try with_reducible rfl
                clear hop
                try simp only [Act.put, List.setIfInBounds_toArray, List.set_cons_zero, List.set_cons_succ]
                refine heldAt (i := 5) (oi := ?oi36) ?hi36 (fun hop => ?_)
                case hi36 => simp only [List.getElem?_toArray, List.getElem?_cons_succ, List.getElem?_cons_zero]; exact rfl
                refine wpAnyH_take (i := 5) (v := undef) hop (by kernel_rfl) (by kernel_rfl) (by kernel_rfl) (fun _ _ _ h => h) (Or.inr ⟨by rfl, rfl⟩) (by assumption) ?_
                clear hop
                try simp only [Act.put, List.setIfInBounds_toArray, List.set_cons_zero, List.set_cons_succ]
                refine heldAt (i := 6) (oi := ?oi37) ?hi37 (fun hop => ?_)
                case hi37 => simp only [List.getElem?_toArray, List.getElem?_cons_succ, List.getElem?_cons_zero]; exact rfl
                refine wpAnyH_take (i := 6) (v := undef) hop (by kernel_rfl) (by kernel_rfl) (by kernel_rfl) (fun _ _ _ h => h) (Or.inr ⟨by rfl, rfl⟩) (by assumption) ?_
                clear hop
                try simp only [Act.put, List.setIfInBounds_toArray, List.set_cons_zero, List.set_cons_succ]
                refine heldAt (i := 7) (oi := ?oi38) ?hi38 (fun hop => ?_)
                case hi38 => simp only [List.getElem?_toArray, List.getElem?_cons_succ, List.getElem?_cons_zero]; exact rfl
                refine wpAnyH_take (i := 7) (v := ?_) hop (by kernel_rfl) (by kernel_rfl) (by kernel_rfl) (fun _ _ _ h => h) (Or.inl ⟨by rfl, ?hy38⟩) (by assumption) ?_
                case hy38 =>
                  intro w hSw
                  try dsimp only at hSw
                  go_simp
                  try with_reducible rfl
                clear hop
                try simp only [Act.put, List.setIfInBounds_toArray, List.set_cons_zero, List.set_cons_succ]
                refine heldAt (i := 8) (oi := ?oi39) ?hi39 (fun hop => ?_)
                case hi39 => simp only [List.getElem?_toArray, List.getElem?_cons_succ, List.getElem?_cons_zero]; exact rfl
                refine wpAnyH_take (i := 8) (v := ?_) hop (by kernel_rfl) (by kernel_rfl) (by kernel_rfl) (fun _ _ _ h => h) (Or.inl ⟨by rfl, ?hy39⟩) (by assumption) ?_
                case hy39 =>
                  intro w hSw
                  try dsimp only at hSw
                  go_simp
                  try with_reducible rfl
                clear hop
                try simp only [Act.put, List.setIfInBounds_toArray, List.set_cons_zero, List.set_cons_succ]
                refine heldAt (i := 9) (oi := ?oi40) ?hi40 (fun hop => ?_)
                case hi40 => simp only [List.getElem?_toArray, List.getElem?_cons_succ, List.getElem?_cons_zero]; exact rfl
                refine wpAnyH_take (i := 9) (v := ?_) hop (by kernel_rfl) (by kernel_rfl) (by kernel_rfl) (fun _ _ _ h => h) (Or.inl ⟨by rfl, ?hy40⟩) (by assumption) ?_
                case hy40 =>
                  intro w hSw
                  try dsimp only at hSw
                  go_simp
                  try with_reducible rfl
                clear hop
                try simp only [Act.put, List.setIfInBounds_toArray, List.set_cons_zero, List.set_cons_succ]
                refine heldAt (i := 10) (oi := ?oi41) ?hi41 (fun hop => ?_)
                case hi41 => simp only [List.getElem?_toArray, List.getElem?_cons_succ, List.getElem?_cons_zero]; exact rfl
                refine wpAnyH_take (i := 10) (v := ?_) hop (by kernel_rfl) (by kernel_rfl) (by kernel_rfl) (fun _ _ _ h => h) (Or.inl ⟨by rfl, ?hy41⟩) (by assumption) ?_
                case hy41 =>
                  intro w hSw
                  try dsimp only at hSw
                  go_simp
                  try with_reducible rfl
                clear hop
                try simp only [Act.put, List.setIfInBounds_toArray, List.set_cons_zero, List.set_cons_succ]
                refine heldAt (i := 11) (oi := ?oi42) ?hi42 (fun hop => ?_)
                case hi42 => simp only [List.getElem?_toArray, List.getElem?_cons_succ, List.getElem?_cons_zero]; exact rfl
                refine wpAnyH_take (i := 11) (v := ?_) hop (by kernel_rfl) (by kernel_rfl) (by kernel_rfl) (fun _ _ _ h => h) (Or.inl ⟨by rfl, ?hy42⟩) (by assumption) ?_
                case hy42 =>
                  intro w hSw
                  try dsimp only at hSw
                  go_simp
                  try with_reducible rfl
                clear hop
                try simp only [Act.put, List.setIfInBounds_toArray, List.set_cons_zero, List.set_cons_succ]
                refine heldAt (i := 12) (oi := ?oi43) ?hi43 (fun hop => ?_)
                case hi43 => simp only [List.getElem?_toArray, List.getElem?_cons_succ, List.getElem?_cons_zero]; exact rfl
                refine wpAnyH_take (i := 12) (v := ?_) hop (by kernel_rfl) (by kernel_rfl) (by kernel_rfl) (fun _ _ _ h => h) (Or.inl ⟨by rfl, ?hy43⟩) (by assumption) ?_
                case hy43 =>
                  intro w hSw
                  try dsimp only at hSw
                  go_simp
                  try with_reducible rfl
                clear hop
                try simp only [Act.put, List.setIfInBounds_toArray, List.set_cons_zero, List.set_cons_succ]
                refine heldAt (i := 13) (oi := ?oi44) ?hi44 (fun hop => ?_)
                case hi44 => simp only [List.getElem?_toArray, List.getElem?_cons_succ, List.getElem?_cons_zero]; exact rfl
                refine wpAnyH_take (i := 13) (v := ?_) hop (by kernel_rfl) (by kernel_rfl) (by kernel_rfl) (fun _ _ _ h => h) (Or.inl ⟨by rfl, ?hy44⟩) (by assumption) ?_
                case hy44 =>
                  intro w hSw
                  try dsimp only at hSw
                  go_simp
                  try with_reducible rfl
                clear hop
                try simp only [Act.put, List.setIfInBounds_toArray, List.set_cons_zero, List.set_cons_succ]
                refine heldAt (i := 14) (oi := ?oi45) ?hi45 (fun hop => ?_)
                case hi45 => simp only [List.getElem?_toArray, List.getElem?_cons_succ, List.getElem?_cons_zero]; exact rfl
                refine wpAnyH_take (i := 14) (v := ?_) hop (by kernel_rfl) (by kernel_rfl) (by kernel_rfl) (fun _ _ _ h => h) (Or.inl ⟨by rfl, ?hy45⟩) (by assumption) ?_
                case hy45 =>
                  intro w hSw
                  try dsimp only at hSw
                  go_simp
                  try with_reducible rfl
                clear hop
                try simp only [Act.put, List.setIfInBounds_toArray, List.set_cons_zero, List.set_cons_succ]
                refine heldAt (i := 15) (oi := ?oi46) ?hi46 (fun hop => ?_)
                case hi46 => simp only [List.getElem?_toArray, List.getElem?_cons_succ, List.getElem?_cons_zero]; exact rfl
                refine wpAnyH_take (i := 15) (v := ?_) hop (by kernel_rfl) (by kernel_rfl) (by kernel_rfl) (fun _ _ _ h => h) (Or.inl ⟨by rfl, ?hy46⟩) (by assumption) ?_
                case hy46 =>
                  intro w hSw
                  try dsimp only at hSw
                  go_simp
                  try with_reducible rfl
                clear hop
                try simp only [Act.put, List.setIfInBounds_toArray, List.set_cons_zero, List.set_cons_succ]
                refine heldAt (i := 16) (oi := ?oi47) ?hi47 (fun hop => ?_)
                case hi47 => simp only [List.getElem?_toArray, List.getElem?_cons_succ, List.getElem?_cons_zero]; exact rfl
                refine wpAnyH_take (i := 16) (v := ?_) hop (by kernel_rfl) (by kernel_rfl) (by kernel_rfl) (fun _ _ _ h => h) (Or.inl ⟨by rfl, ?hy47⟩) (by assumption) ?_
                case hy47 =>
                  intro w hSw
                  try dsimp only at hSw
                  go_simp
                  try with_reducible rfl
                clear hop
                try simp only [Act.put, List.setIfInBounds_toArray, List.set_cons_zero, List.set_cons_succ]
                refine heldAt (i := 18) (oi := ?oi48) ?hi48 (fun hop => ?_)
                case hi48 => simp only [List.getElem?_toArray, List.getElem?_cons_succ, List.getElem?_cons_zero]; exact rfl
                refine wpAnyH_take (i := 18) (v := ?_) hop (by kernel_rfl) (by kernel_rfl) (by kernel_rfl) (fun _ _ _ h => h) (Or.inl ⟨by rfl, ?hy48⟩) (by assumption) ?_
                case hy48 =>
                  intro w hSw
                  try dsimp only at hSw
                  go_simp
                  try with_reducible rfl
                clear hop
                try simp only [Act.put, List.setIfInBounds_toArray, List.set_cons_zero, List.set_cons_succ]
                refine heldAt (i := 19) (oi := ?oi49) ?hi49 (fun hop => ?_)
                case hi49 => simp only [List.getElem?_toArray, List.getElem?_cons_succ, List.getElem?_cons_zero]; exact rfl
                refine wpAnyH_take (i := 19) (v := ?_) hop (by kernel_rfl) (by kernel_rfl) (by kernel_rfl) (fun _ _ _ h => h) (Or.inl ⟨by rfl, ?hy49⟩) (by assumption) ?_
                case hy49 =>
                  intro w hSw
                  try dsimp only at hSw
                  go_simp
                  try with_reducible rfl
                clear hop
                try simp only [Act.put, List.setIfInBounds_toArray, List.set_cons_zero, List.set_cons_succ]
                refine heldAt (i := 20) (oi := ?oi50) ?hi50 (fun hop => ?_)
                case hi50 => simp only [List.getElem?_toArray, List.getElem?_cons_succ, List.getElem?_cons_zero]; exact rfl
                refine wpAnyH_take (i := 20) (v := ?_) hop (by kernel_rfl) (by kernel_rfl) (by kernel_rfl) (fun _ _ _ h => h) (Or.inl ⟨by rfl, ?hy50⟩) (by assumption) ?_
                case hy50 =>
                  intro w hSw
                  try dsimp only at hSw
                  go_simp
                  try with_reducible rfl
                clear hop
                try simp only [Act.put, List.setIfInBounds_toArray, List.set_cons_zero, List.set_cons_succ]
                refine heldAt (i := 21) (oi := ?oi51) ?hi51 (fun hop => ?_)
                case hi51 => simp only [List.getElem?_toArray, List.getElem?_cons_succ, List.getElem?_cons_zero]; exact rfl
                refine wpAnyH_take (i := 21) (v := ?_) hop (by kernel_rfl) (by kernel_rfl) (by kernel_rfl) (fun _ _ _ h => h) (Or.inl ⟨by rfl, ?hy51⟩) (by assumption) ?_
                case hy51 =>
                  intro w hSw
                  try dsimp only at hSw
                  go_simp
                  try with_reducible rfl
                clear hop
                try simp only [Act.put, List.setIfInBounds_toArray, List.set_cons_zero, List.set_cons_succ]
                refine heldAt (i := 17) (oi := ?oi52) ?hi52 (fun hop => ?_)
                case hi52 => simp only [List.getElem?_toArray, List.getElem?_cons_succ, List.getElem?_cons_zero]; exact rfl
                refine wpAnyH_ready (rs := [17]) (by kernel_rfl) (by simp) ?_
                refine AllReadyH.cons hop (fun K hK => ?_) AllReadyH.nil
                clear hop
                go_simp
                (refine (tree_above (r := false) ((h5.pull 1).drewN 1) HKX.out HAB.out).mono ?_; rintro e w11 ⟨rfl, h6, k6⟩)
                refine hK.out _ _ ?_ (fun hHeld => ?_)
                · exact ⟨own_node (h6.pull 4), bool_at (h6.pull 2) HUA.out⟩
                clear hK K
                try simp only [Act.put, List.setIfInBounds_toArray, List.set_cons_zero, List.set_cons_succ]
                refine heldAt (i := 22) (oi := ?oi53) ?hi53 (fun hop => ?_)
                case hi53 => simp only [List.getElem?_toArray, List.getElem?_cons_succ, List.getElem?_cons_zero]; exact rfl
                refine wpAnyH_take (i := 22) (v := ?_) hop (by kernel_rfl) (by kernel_rfl) (by kernel_rfl) (fun _ _ _ h => h) (Or.inl ⟨by rfl, ?hy53⟩) (by assumption) ?_
                case hy53 =>
                  intro w hSw
                  try dsimp only at hSw
                  go_simp
                  try with_reducible rfl
                clear hop
                try simp only [Act.put, List.setIfInBounds_toArray, List.set_cons_zero, List.set_cons_succ]
                refine heldAt (i := 23) (oi := ?oi54) ?hi54 (fun hop => ?_)
                case hi54 => simp only [List.getElem?_toArray, List.getElem?_cons_succ, List.getElem?_cons_zero]; exact rfl
                refine wpAnyH_take (i := 23) (v := ?_) hop (by kernel_rfl) (by kernel_rfl) (by kernel_rfl) (fun _ _ _ h => h) (Or.inl ⟨by rfl, ?hy54⟩) (by assumption) ?_
                case hy54 =>
                  intro w hSw
                  try dsimp only at hSw
                  go_simp
                  try with_reducible rfl
                clear hop
                try simp only [Act.put, List.setIfInBounds_toArray, List.set_cons_zero, List.set_cons_succ]
                refine heldAt (i := 24) (oi := ?oi55) ?hi55 (fun hop => ?_)
                case hi55 => simp only [List.getElem?_toArray, List.getElem?_cons_succ, List.getElem?_cons_zero]; exact rfl
                refine wpAnyH_take (i := 24) (v := ?_) hop (by kernel_rfl) (by kernel_rfl) (by kernel_rfl) (fun _ _ _ h => h) (Or.inl ⟨by rfl, ?hy55⟩) (by assumption) ?_
                case hy55 =>
                  intro w hSw
                  try dsimp only at hSw
                  go_simp
                  try with_reducible rfl
                clear hop
                try simp only [Act.put, List.setIfInBounds_toArray, List.set_cons_zero, List.set_cons_succ]
                refine heldAt (i := 25) (oi := ?oi56) ?hi56 (fun hop => ?_)
                case hi56 => simp only [List.getElem?_toArray, List.getElem?_cons_succ, List.getElem?_cons_zero]; exact rfl
                refine wpAnyH_take (i := 25) (v := ?_) hop (by kernel_rfl) (by kernel_rfl) (by kernel_rfl) (fun _ _ _ h => h) (Or.inl ⟨by rfl, ?hy56⟩) (by assumption) ?_
                case hy56 =>
                  intro w hSw
                  try dsimp only at hSw
                  go_simp
                  try with_reducible rfl
                clear hop
                try simp only [Act.put, List.setIfInBounds_toArray, List.set_cons_zero, List.set_cons_succ]
                refine heldAt (i := 26) (oi := ?oi57) ?hi57 (fun hop => ?_)
                case hi57 => simp only [List.getElem?_toArray, List.getElem?_cons_succ, List.getElem?_cons_zero]; exact rfl
                refine wpAnyH_take (i := 26) (v := ?_) hop (by kernel_rfl) (by kernel_rfl) (by kernel_rfl) (fun _ _ _ h => h) (Or.inl ⟨by rfl, ?hy57⟩) (by assumption) ?_
                case hy57 =>
                  intro w hSw
                  try dsimp only at hSw
                  go_simp
                  try with_reducible rfl
                clear hop
                try simp only [Act.put, List.setIfInBounds_toArray, List.set_cons_zero, List.set_cons_succ]
                refine heldAt (i := 27) (oi := ?oi58) ?hi58 (fun hop => ?_)
                case hi58 => simp only [List.getElem?_toArray, List.getElem?_cons_succ, List.getElem?_cons_zero]; exact rfl
                refine wpAnyH_take (i := 27) (v := ?_) hop (by kernel_rfl) (by kernel_rfl) (by kernel_rfl) (fun _ _ _ h => h) (Or.inl ⟨by rfl, ?hy58⟩) (by assumption) ?_
                case hy58 =>
                  intro w hSw
                  try dsimp only at hSw
                  go_simp
                  try with_reducible rfl
                clear hop
                try simp only [Act.put, List.setIfInBounds_toArray, List.set_cons_zero, List.set_cons_succ]
                refine heldAt (i := 28) (oi := ?oi59) ?hi59 (fun hop => ?_)
                case hi59 => simp only [List.getElem?_toArray, List.getElem?_cons_succ, List.getElem?_cons_zero]; exact rfl
                refine wpAnyH_take (i := 28) (v := ?_) hop (by kernel_rfl) (by kernel_rfl) (by kernel_rfl) (fun _ _ _ h => h) (Or.inl ⟨by rfl, ?hy59⟩) (by assumption) ?_
                case hy59 =>
                  intro w hSw
                  try dsimp only at hSw
                  go_simp
                  try with_reducible rfl
                clear hop
                try simp only [Act.put, List.setIfInBounds_toArray, List.set_cons_zero, List.set_cons_succ]
                refine heldAt (i := 29) (oi := ?oi60) ?hi60 (fun hop => ?_)
                case hi60 => simp only [List.getElem?_toArray, List.getElem?_cons_succ, List.getElem?_cons_zero]; exact rfl
                refine wpAnyH_take (i := 29) (v := ?_) hop (by kernel_rfl) (by kernel_rfl) (by kernel_rfl) (fun _ _ _ h => h) (Or.inl ⟨by rfl, ?hy60⟩) (by assumption) ?_
                case hy60 =>
                  intro w hSw
                  try dsimp only at hSw
                  go_simp
                  try with_reducible rfl
                clear hop
                try simp only [Act.put, List.setIfInBounds_toArray, List.set_cons_zero, List.set_cons_succ]
                refine wpAnyH_done (by kernel_rfl) ?_ _
                clear c2 ui
                go_wp2_with fail
                go_roundw
                case rel => exact ⟨i + 1, by omega, by go_num, (h6.pull 1).tail, (k5.drewN 1).trans k6⟩
                case measure => simp [intOf]; omega
            · have hs := hst.out hl
              subst hs
              have t1 : (x.node != node) = false := by simpa using heq
              have t2 : (x.node == node) = true := by simpa using heq
              rw [ha] at HUA HAB ui
              clear heq hl ha hst HCA
              subst hrf
              go_upto_region 24 with (fail)
              refine wp_region_held_drew (S := (fun w' => w'.cell? ⟨O, 2, none⟩ = some (.int .i64 node) ∧ w'.cell? ⟨ug, i, none⟩ = some (.bool true))) (by kernel_rfl) ?_ (fun hHeld => ?_)
              · exact ⟨c2, ui⟩
              refine heldAt (i := 0) (oi := ?oi61) ?hi61 (fun hop => ?_)
              case hi61 => simp only [List.getElem?_toArray, List.getElem?_cons_succ, List.getElem?_cons_zero]; exact rfl
              refine wpAnyH_take (i := 0) (v := ?_) hop (by kernel_rfl) (by kernel_rfl) (by kernel_rfl) (fun _ _ _ h => h) (Or.inl ⟨by rfl, ?hy61⟩) (by assumption) ?_
              case hy61 =>
                intro w hSw
                try dsimp only at hSw
                go_simp
                try with_reducible rfl
              clear hop
              try simp only [Act.put, List.setIfInBounds_toArray, List.set_cons_zero, List.set_cons_succ]
              refine heldAt (i := 1) (oi := ?oi62) ?hi62 (fun hop => ?_)
              case hi62 => simp only [List.getElem?_toArray, List.getElem?_cons_succ, List.getElem?_cons_zero]; exact rfl
              refine wpAnyH_take (i := 1) (v := ?_) hop (by kernel_rfl) (by kernel_rfl) (by kernel_rfl) (fun _ _ _ h => h) (Or.inl ⟨by rfl, ?hy62⟩) (by assumption) ?_
              case hy62 =>
                intro w hSw
                try dsimp only at hSw
                go_simp
                try with_reducible rfl
              clear hop
              try simp only [Act.put, List.setIfInBounds_toArray, List.set_cons_zero, List.set_cons_succ]
              refine heldAt (i := 2) (oi := ?oi63) ?hi63 (fun hop => ?_)
              case hi63 => simp only [List.getElem?_toArray, List.getElem?_cons_succ, List.getElem?_cons_zero]; exact rfl
              refine wpAnyH_take (i := 2) (v := ?_) hop (by kernel_rfl) (by kernel_rfl) (by kernel_rfl) (fun _ _ _ h => h) (Or.inl ⟨by rfl, ?hy63⟩) (by assumption) ?_
              case hy63 =>
                intro w hSw
                try dsimp only at hSw
                go_simp
                try with_reducible rfl
              clear hop
              try simp only [Act.put, List.setIfInBounds_toArray, List.set_cons_zero, List.set_cons_succ]
              refine heldAt (i := 3) (oi := ?oi64) ?hi64 (fun hop => ?_)
              case hi64 => simp only [List.getElem?_toArray, List.getElem?_cons_succ, List.getElem?_cons_zero]; exact rfl
              refine wpAnyH_take (i := 3) (v := ?_) hop (by kernel_rfl) (by kernel_rfl) (by kernel_rfl) (fun _ _ _ h => h) (Or.inl ⟨by rfl, ?hy64⟩) (by assumption) ?_
              case hy64 =>
                intro w hSw
                try dsimp only at hSw
                go_simp
                try with_reducible rfl
              clear hop
              try simp only [Act.put, List.setIfInBounds_toArray, List.set_cons_zero, List.set_cons_succ]
              refine heldAt (i := 4) (oi := ?oi65) ?hi65 (fun hop => ?_)
              case hi65 => simp only [List.getElem?_toArray, List.getElem?_cons_succ, List.getElem?_cons_zero]; exact rfl
              refine wpAnyH_take (i := 4) (v := ?_) hop (by kernel_rfl) (by kernel_rfl) (by kernel_rfl) (fun _ _ _ h => h) (Or.inl ⟨by rfl, ?hy65⟩) (by assumption) ?_
              case hy65 =>
                intro w hSw
                try dsimp only at hSw
                go_simp
                try with_reducible rfl
              clear hop
              try simp only [Act.put, List.setIfInBounds_toArray, List.set_cons_zero, List.set_cons_succ]
              refine heldAt (i := 5) (oi := ?oi66) ?hi66 (fun hop => ?_)
              case hi66 => simp only [List.getElem?_toArray, List.getElem?_cons_succ, List.getElem?_cons_zero]; exact rfl
              refine wpAnyH_take (i := 5) (v := ?_) hop (by kernel_rfl) (by kernel_rfl) (by kernel_rfl) (fun _ _ _ h => h) (Or.inl ⟨by rfl, ?hy66⟩) (by assumption) ?_
              case hy66 =>
                intro w hSw
                try dsimp only at hSw
                go_simp
                try with_reducible rfl
              clear hop
              try simp only [Act.put, List.setIfInBounds_toArray, List.set_cons_zero, List.set_cons_succ]
              refine heldAt (i := 6) (oi := ?oi67) ?hi67 (fun hop => ?_)
              case hi67 => simp only [List.getElem?_toArray, List.getElem?_cons_succ, List.getElem?_cons_zero]; exact rfl
              refine wpAnyH_take (i := 6) (v := ?_) hop (by kernel_rfl) (by kernel_rfl) (by kernel_rfl) (fun _ _ _ h => h) (Or.inl ⟨by rfl, ?hy67⟩) (by assumption) ?_
              case hy67 =>
                intro w hSw
                try dsimp only at hSw
                go_simp
                try with_reducible rfl
              clear hop
              try simp only [Act.put, List.setIfInBounds_toArray, List.set_cons_zero, List.set_cons_succ]
              refine heldAt (i := 7) (oi := ?oi68) ?hi68 (fun hop => ?_)
              case hi68 => simp only [List.getElem?_toArray, List.getElem?_cons_succ, List.getElem?_cons_zero]; exact rfl
              refine wpAnyH_take (i := 7) (v := ?_) hop (by kernel_rfl) (by kernel_rfl) (by kernel_rfl) (fun _ _ _ h => h) (Or.inl ⟨by rfl, ?hy68⟩) (by assumption) ?_
              case hy68 =>
                intro w hSw
                try dsimp only at hSw
                go_simp
                try with_reducible rfl
              clear hop
              try simp only [Act.put, List.setIfInBounds_toArray, List.set_cons_zero, List.set_cons_succ]
              refine heldAt (i := 8) (oi := ?oi69) ?hi69 (fun hop => ?_)
              case hi69 => simp only [List.getElem?_toArray, List.getElem?_cons_succ, List.getElem?_cons_zero]; exact rfl
              refine wpAnyH_take (i := 8) (v := ?_) hop (by kernel_rfl) (by kernel_rfl) (by kernel_rfl) (fun _ _ _ h => h) (Or.inl ⟨by rfl, ?hy69⟩) (by assumption) ?_
              case hy69 =>
                intro w hSw
                try dsimp only at hSw
                go_simp
                try with_reducible rfl
              clear hop
              try simp only [Act.put, List.setIfInBounds_toArray, List.set_cons_zero, List.set_cons_succ]
              refine heldAt (i := 9) (oi := ?oi70) ?hi70 (fun hop => ?_)
              case hi70 => simp only [List.getElem?_toArray, List.getElem?_cons_succ, List.getElem?_cons_zero]; exact rfl
              refine wpAnyH_take (i := 9) (v := ?_) hop (by kernel_rfl) (by kernel_rfl) (by kernel_rfl) (fun _ _ _ h => h) (Or.inl ⟨by rfl, ?hy70⟩) (by assumption) ?_
              case hy70 =>
                intro w hSw
                try dsimp only at hSw
                go_simp
                try with_reducible rfl
              clear hop
              try simp only [Act.put, List.setIfInBounds_toArray, List.set_cons_zero, List.set_cons_succ]
              refine heldAt (i := 10) (oi := ?oi71) ?hi71 (fun hop => ?_)
              case hi71 => simp only [List.getElem?_toArray, List.getElem?_cons_succ, List.getElem?_cons_zero]; exact rfl
              refine wpAnyH_take (i := 10) (v := ?_) hop (by kernel_rfl) (by kernel_rfl) (by kernel_rfl) (fun _ _ _ h => h) (Or.inl ⟨by rfl, ?hy71⟩) (by assumption) ?_
              case hy71 =>
                intro w hSw
                try dsimp only at hSw
                go_simp
                try with_reducible rfl
              clear hop
              try simp only [Act.put, List.setIfInBounds_toArray, List.set_cons_zero, List.set_cons_succ]
              refine heldAt (i := 11) (oi := ?oi72) ?hi72 (fun hop => ?_)
              case hi72 => simp only [List.getElem?_toArray, List.getElem?_cons_succ, List.getElem?_cons_zero]; exact rfl
              refine wpAnyH_take (i := 11) (v := ?_) hop (by kernel_rfl) (by kernel_rfl) (by kernel_rfl) (fun _ _ _ h => h) (Or.inl ⟨by rfl, ?hy72⟩) (by assumption) ?_
              case hy72 =>
                intro w hSw
                try dsimp only at hSw
                go_simp
                try with_reducible rfl
              clear hop
              try simp only [Act.put, List.setIfInBounds_toArray, List.set_cons_zero, List.set_cons_succ]
              refine heldAt (i := 12) (oi := ?oi73) ?hi73 (fun hop => ?_)
              case hi73 => simp only [List.getElem?_toArray, List.getElem?_cons_succ, List.getElem?_cons_zero]; exact rfl
              refine wpAnyH_take (i := 12) (v := ?_) hop (by kernel_rfl) (by kernel_rfl) (by kernel_rfl) (fun _ _ _ h => h) (Or.inl ⟨by rfl, ?hy73⟩) (by assumption) ?_
              case hy73 =>
                intro w hSw
                try dsimp only at hSw
                go_simp
                try with_reducible rfl
              clear hop
              try simp only [Act.put, List.setIfInBounds_toArray, List.set_cons_zero, List.set_cons_succ]
              refine heldAt (i := 13) (oi := ?oi74) ?hi74 (fun hop => ?_)
              case hi74 => simp only [List.getElem?_toArray, List.getElem?_cons_succ, List.getElem?_cons_zero]; exact rfl
              refine wpAnyH_take (i := 13) (v := ?_) hop (by kernel_rfl) (by kernel_rfl) (by kernel_rfl) (fun _ _ _ h => h) (Or.inl ⟨by rfl, ?hy74⟩) (by assumption) ?_
              case hy74 =>
                intro w hSw
                try dsimp only at hSw
                go_simp
                try with_reducible rfl
              clear hop
              try simp only [Act.put, List.setIfInBounds_toArray, List.set_cons_zero, List.set_cons_succ]
              refine heldAt (i := 14) (oi := ?oi75) ?hi75 (fun hop => ?_)
              case hi75 => simp only [List.getElem?_toArray, List.getElem?_cons_succ, List.getElem?_cons_zero]; exact rfl
              refine wpAnyH_take (i := 14) (v := ?_) hop (by kernel_rfl) (by kernel_rfl) (by kernel_rfl) (fun _ _ _ h => h) (Or.inl ⟨by rfl, ?hy75⟩) (by assumption) ?_
              case hy75 =>
                intro w hSw
                try dsimp only at hSw
                go_simp
                try with_reducible rfl
              clear hop
              try simp only [Act.put, List.setIfInBounds_toArray, List.set_cons_zero, List.set_cons_succ]
              refine heldAt (i := 15) (oi := ?oi76) ?hi76 (fun hop => ?_)
              case hi76 => simp only [List.getElem?_toArray, List.getElem?_cons_succ, List.getElem?_cons_zero]; exact rfl
              refine wpAnyH_take (i := 15) (v := ?_) hop (by kernel_rfl) (by kernel_rfl) (by kernel_rfl) (fun _ _ _ h => h) (Or.inl ⟨by rfl, ?hy76⟩) (by assumption) ?_
              case hy76 =>
                intro w hSw
                try dsimp only at hSw
                go_simp
                try with_reducible rfl
              clear hop
              try simp only [Act.put, List.setIfInBounds_toArray, List.set_cons_zero, List.set_cons_succ]
              refine heldAt (i := 16) (oi := ?oi77) ?hi77 (fun hop => ?_)
              case hi77 => simp only [List.getElem?_toArray, List.getElem?_cons_succ, List.getElem?_cons_zero]; exact rfl
              refine wpAnyH_take (i := 16) (v := ?_) hop (by kernel_rfl) (by kernel_rfl) (by kernel_rfl) (fun _ _ _ h => h) (Or.inl ⟨by rfl, ?hy77⟩) (by assumption) ?_
              case hy77 =>
                intro w hSw
                try dsimp only at hSw
                go_simp
                try with_reducible rfl
              clear hop
              try simp only [Act.put, List.setIfInBounds_toArray, List.set_cons_zero, List.set_cons_succ]
              refine heldAt (i := 18) (oi := ?oi78) ?hi78 (fun hop => ?_)
              case hi78 => simp only [List.getElem?_toArray, List.getElem?_cons_succ, List.getElem?_cons_zero]; exact rfl
              refine wpAnyH_take (i := 18) (v := ?_) hop (by kernel_rfl) (by kernel_rfl) (by kernel_rfl) (fun _ _ _ h => h) (Or.inl ⟨by rfl, ?hy78⟩) (by assumption) ?_
              case hy78 =>
                intro w hSw
                try dsimp only at hSw
                go_simp
                try with_reducible rfl
              clear hop
              try simp only [Act.put, List.setIfInBounds_toArray, List.set_cons_zero, List.set_cons_succ]
              refine heldAt (i := 19) (oi := ?oi79) ?hi79 (fun hop => ?_)
              case hi79 => simp only [List.getElem?_toArray, List.getElem?_cons_succ, List.getElem?_cons_zero]; exact rfl
              refine wpAnyH_take (i := 19) (v := ?_) hop (by kernel_rfl) (by kernel_rfl) (by kernel_rfl) (fun _ _ _ h => h) (Or.inl ⟨by rfl, ?hy79⟩) (by assumption) ?_
              case hy79 =>
                intro w hSw
                try dsimp only at hSw
                go_simp
                try with_reducible rfl
              clear hop
              try simp only [Act.put, List.setIfInBounds_toArray, List.set_cons_zero, List.set_cons_succ]
              refine heldAt (i := 20) (oi := ?oi80) ?hi80 (fun hop => ?_)
              case hi80 => simp only [List.getElem?_toArray, List.getElem?_cons_succ, List.getElem?_cons_zero]; exact rfl
              refine wpAnyH_take (i := 20) (v := ?_) hop (by kernel_rfl) (by kernel_rfl) (by kernel_rfl) (fun _ _ _ h => h) (Or.inl ⟨by rfl, ?hy80⟩) (by assumption) ?_
              case hy80 =>
                intro w hSw
                try dsimp only at hSw
                go_simp
                try with_reducible rfl
              clear hop
              try simp only [Act.put, List.setIfInBounds_toArray, List.set_cons_zero, List.set_cons_succ]
              refine heldAt (i := 21) (oi := ?oi81) ?hi81 (fun hop => ?_)
              case hi81 => simp only [List.getElem?_toArray, List.getElem?_cons_succ, List.getElem?_cons_zero]; exact rfl
              refine wpAnyH_take (i := 21) (v := ?_) hop (by kernel_rfl) (by kernel_rfl) (by kernel_rfl) (fun _ _ _ h => h) (Or.inl ⟨by rfl, ?hy81⟩) (by assumption) ?_
              case hy81 =>
                intro w hSw
                try dsimp only at hSw
                go_simp
                try with_reducible rfl
              clear hop
              try simp only [Act.put, List.setIfInBounds_toArray, List.set_cons_zero, List.set_cons_succ]
              refine heldAt (i := 17) (oi := ?oi82) ?hi82 (fun hop => ?_)
              case hi82 => simp only [List.getElem?_toArray, List.getElem?_cons_succ, List.getElem?_cons_zero]; exact rfl
              refine wpAnyH_ready (rs := [17]) (by kernel_rfl) (by simp) ?_
              refine AllReadyH.cons hop (fun K hK => ?_) AllReadyH.nil
              clear hop
              go_simp
              (refine (tree_above (r := true) ((h5.pull 1).drewN 1) HKX.out HAB.out).mono ?_; rintro e w11 ⟨rfl, h6, k6⟩)
              refine hK.out _ _ ?_ (fun hHeld => ?_)
              · exact ⟨own_node (h6.pull 4), bool_at (h6.pull 2) HUA.out⟩
              clear hK K
              try simp only [Act.put, List.setIfInBounds_toArray, List.set_cons_zero, List.set_cons_succ]
              refine heldAt (i := 22) (oi := ?oi83) ?hi83 (fun hop => ?_)
              case hi83 => simp only [List.getElem?_toArray, List.getElem?_cons_succ, List.getElem?_cons_zero]; exact rfl
              refine wpAnyH_take (i := 22) (v := ?_) hop (by kernel_rfl) (by kernel_rfl) (by kernel_rfl) (fun _ _ _ h => h) (Or.inl ⟨by rfl, ?hy83⟩) (by assumption) ?_
              case hy83 =>
                intro w hSw
                try dsimp only at hSw
                go_simp
                try with_reducible rfl
              clear hop
              try simp only [Act.put, List.setIfInBounds_toArray, List.set_cons_zero, List.set_cons_succ]
              refine heldAt (i := 23) (oi := ?oi84) ?hi84 (fun hop => ?_)
              case hi84 => simp only [List.getElem?_toArray, List.getElem?_cons_succ, List.getElem?_cons_zero]; exact rfl
              refine wpAnyH_take (i := 23) (v := undef) hop (by kernel_rfl) (by kernel_rfl) (by kernel_rfl) (fun _ _ _ h => h) (Or.inr ⟨by rfl, rfl⟩) (by assumption) ?_
              clear hop
              try simp only [Act.put, List.setIfInBounds_toArray, List.set_cons_zero, List.set_cons_succ]
              refine heldAt (i := 24) (oi := ?oi85) ?hi85 (fun hop => ?_)
              case hi85 => simp only [List.getElem?_toArray, List.getElem?_cons_succ, List.getElem?_cons_zero]; exact rfl
              refine wpAnyH_take (i := 24) (v := undef) hop (by kernel_rfl) (by kernel_rfl) (by kernel_rfl) (fun _ _ _ h => h) (Or.inr ⟨by rfl, rfl⟩) (by assumption) ?_
              clear hop
              try simp only [Act.put, List.setIfInBounds_toArray, List.set_cons_zero, List.set_cons_succ]
              refine heldAt (i := 25) (oi := ?oi86) ?hi86 (fun hop => ?_)
              case hi86 => simp only [List.getElem?_toArray, List.getElem?_cons_succ, List.getElem?_cons_zero]; exact rfl
              refine wpAnyH_take (i := 25) (v := undef) hop (by kernel_rfl) (by kernel_rfl) (by kernel_rfl) (fun _ _ _ h => h) (Or.inr ⟨by rfl, rfl⟩) (by assumption) ?_
              clear hop
              try simp only [Act.put, List.setIfInBounds_toArray, List.set_cons_zero, List.set_cons_succ]
              refine heldAt (i := 26) (oi := ?oi87) ?hi87 (fun hop => ?_)
              case hi87 => simp only [List.getElem?_toArray, List.getElem?_cons_succ, List.getElem?_cons_zero]; exact rfl
              refine wpAnyH_take (i := 26) (v := undef) hop (by kernel_rfl) (by kernel_rfl) (by kernel_rfl) (fun _ _ _ h => h) (Or.inr ⟨by rfl, rfl⟩) (by assumption) ?_
              clear hop
              try simp only [Act.put, List.setIfInBounds_toArray, List.set_cons_zero, List.set_cons_succ]
              refine heldAt (i := 27) (oi := ?oi88) ?hi88 (fun hop => ?_)
              case hi88 => simp only [List.getElem?_toArray, List.getElem?_cons_succ, List.getElem?_cons_zero]; exact rfl
              refine wpAnyH_take (i := 27) (v := ?_) hop (by kernel_rfl) (by kernel_rfl) (by kernel_rfl) (fun _ _ _ h => h) (Or.inl ⟨by rfl, ?hy88⟩) (by assumption) ?_
              case hy88 =>
                intro w hSw
                try dsimp only at hSw
                go_simp
                try with_reducible rfl
              clear hop
              try simp only [Act.put, List.setIfInBounds_toArray, List.set_cons_zero, List.set_cons_succ]
              refine heldAt (i := 28) (oi := ?oi89) ?hi89 (fun hop => ?_)
              case hi89 => simp only [List.getElem?_toArray, List.getElem?_cons_succ, List.getElem?_cons_zero]; exact rfl
              refine wpAnyH_take (i := 28) (v := ?_) hop (by kernel_rfl) (by kernel_rfl) (by kernel_rfl) (fun _ _ _ h => h) (Or.inl ⟨by rfl, ?hy89⟩) (by assumption) ?_
              case hy89 =>
                intro w hSw
                try dsimp only at hSw
                go_simp
                try with_reducible rfl
              clear hop
              try simp only [Act.put, List.setIfInBounds_toArray, List.set_cons_zero, List.set_cons_succ]
              refine heldAt (i := 29) (oi := ?oi90) ?hi90 (fun hop => ?_)
              case hi90 => simp only [List.getElem?_toArray, List.getElem?_cons_succ, List.getElem?_cons_zero]; exact rfl
              refine wpAnyH_take (i := 29) (v := ?_) hop (by kernel_rfl) (by kernel_rfl) (by kernel_rfl) (fun _ _ _ h => h) (Or.inl ⟨by rfl, ?hy90⟩) (by assumption) ?_
              case hy90 =>
                intro w hSw
                try dsimp only at hSw
                go_simp
                try with_reducible rfl
              clear hop
              try simp only [Act.put, List.setIfInBounds_toArray, List.set_cons_zero, List.set_cons_succ]
              refine wpAnyH_done (by kernel_rfl) ?_ _
              clear c2 ui
              go_wp2_with fail
              go_roundw
              case rel => exact ⟨i + 1, by omega, by go_num, (h6.pull 1).tail, (k5.drewN 1).trans k6⟩
              case measure => simp [intOf]; omega
            · have t1 : (x.node != node) = false := by simpa using heq
              have t2 : (x.node == node) = true := by simpa using heq
              rw [ha] at HUA HAB ui
              clear heq ha hst HCA
              subst hrt
              go_upto_region 24 with (fail)
              refine wp_region_held_drew (S := (fun w' => w'.cell? ⟨O, 2, none⟩ = some (.int .i64 node) ∧ w'.cell? ⟨ug, i, none⟩ = some (.bool true))) (by kernel_rfl) ?_ (fun hHeld => ?_)
              · exact ⟨c2, ui⟩
              refine heldAt (i := 0) (oi := ?oi91) ?hi91 (fun hop => ?_)
              case hi91 => simp only [List.getElem?_toArray, List.getElem?_cons_succ, List.getElem?_cons_zero]; exact rfl
              refine wpAnyH_take (i := 0) (v := ?_) hop (by kernel_rfl) (by kernel_rfl) (by kernel_rfl) (fun _ _ _ h => h) (Or.inl ⟨by rfl, ?hy91⟩) (by assumption) ?_
              case hy91 =>
                intro w hSw
                try dsimp only at hSw
                go_simp
                try with_reducible rfl
              clear hop
              try simp only [Act.put, List.setIfInBounds_toArray, List.set_cons_zero, List.set_cons_succ]
              refine heldAt (i := 1) (oi := ?oi92) ?hi92 (fun hop => ?_)
              case hi92 => simp only [List.getElem?_toArray, List.getElem?_cons_succ, List.getElem?_cons_zero]; exact rfl
              refine wpAnyH_take (i := 1) (v := ?_) hop (by kernel_rfl) (by kernel_rfl) (by kernel_rfl) (fun _ _ _ h => h) (Or.inl ⟨by rfl, ?hy92⟩) (by assumption) ?_
              case hy92 =>
                intro w hSw
                try dsimp only at hSw
                go_simp
                try with_reducible rfl
              clear hop
              try simp only [Act.put, List.setIfInBounds_toArray, List.set_cons_zero, List.set_cons_succ]
              refine heldAt (i := 2) (oi := ?oi93) ?hi93 (fun hop => ?_)
              case hi93 => simp only [List.getElem?_toArray, List.getElem?_cons_succ, List.getElem?_cons_zero]; exact rfl
              refine wpAnyH_take (i := 2) (v := ?_) hop (by kernel_rfl) (by kernel_rfl) (by kernel_rfl) (fun _ _ _ h => h) (Or.inl ⟨by rfl, ?hy93⟩) (by assumption) ?_
              case hy93 =>
                intro w hSw
                try dsimp only at hSw
                go_simp
                try with_reducible rfl
              clear hop
              try simp only [Act.put, List.setIfInBounds_toArray, List.set_cons_zero, List.set_cons_succ]
              refine heldAt (i := 3) (oi := ?oi94) ?hi94 (fun hop => ?_)
              case hi94 => simp only [List.getElem?_toArray, List.getElem?_cons_succ, List.getElem?_cons_zero]; exact rfl
              refine wpAnyH_take (i := 3) (v := ?_) hop (by kernel_rfl) (by kernel_rfl) (by kernel_rfl) (fun _ _ _ h => h) (Or.inl ⟨by rfl, ?hy94⟩) (by assumption) ?_
              case hy94 =>
                intro w hSw
                try dsimp only at hSw
                go_simp
                try with_reducible rfl
              clear hop
              try simp only [Act.put, List.setIfInBounds_toArray, List.set_cons_zero, List.set_cons_succ]
              refine heldAt (i := 4) (oi := ?oi95) ?hi95 (fun hop => ?_)
              case hi95 => simp only [List.getElem?_toArray, List.getElem?_cons_succ, List.getElem?_cons_zero]; exact rfl
              refine wpAnyH_take (i := 4) (v := ?_) hop (by kernel_rfl) (by kernel_rfl) (by kernel_rfl) (fun _ _ _ h => h) (Or.inl ⟨by rfl, ?hy95⟩) (by assumption) ?_
              case hy95 =>
                intro w hSw
                try dsimp only at hSw
                go_simp
                try with_reducible rfl
              clear hop
              try simp only [Act.put, List.setIfInBounds_toArray, List.set_cons_zero, List.set_cons_succ]
              refine heldAt (i := 5) (oi := ?oi96) ?hi96 (fun hop => ?_)
              case hi96 => simp only [List.getElem?_toArray, List.getElem?_cons_succ, List.getElem?_cons_zero]; exact rfl
              refine wpAnyH_take (i := 5) (v := ?_) hop (by kernel_rfl) (by kernel_rfl) (by kernel_rfl) (fun _ _ _ h => h) (Or.inl ⟨by rfl, ?hy96⟩) (by assumption) ?_
              case hy96 =>
                intro w hSw
                try dsimp only at hSw
                go_simp
                try with_reducible rfl
              clear hop
              try simp only [Act.put, List.setIfInBounds_toArray, List.set_cons_zero, List.set_cons_succ]
              refine heldAt (i := 6) (oi := ?oi97) ?hi97 (fun hop => ?_)
              case hi97 => simp only [List.getElem?_toArray, List.getElem?_cons_succ, List.getElem?_cons_zero]; exact rfl
              refine wpAnyH_take (i := 6) (v := ?_) hop (by kernel_rfl) (by kernel_rfl) (by kernel_rfl) (fun _ _ _ h => h) (Or.inl ⟨by rfl, ?hy97⟩) (by assumption) ?_
              case hy97 =>
                intro w hSw
                try dsimp only at hSw
                go_simp
                try with_reducible rfl
              clear hop
              try simp only [Act.put, List.setIfInBounds_toArray, List.set_cons_zero, List.set_cons_succ]
              refine heldAt (i := 7) (oi := ?oi98) ?hi98 (fun hop => ?_)
              case hi98 => simp only [List.getElem?_toArray, List.getElem?_cons_succ, List.getElem?_cons_zero]; exact rfl
              refine wpAnyH_take (i := 7) (v := ?_) hop (by kernel_rfl) (by kernel_rfl) (by kernel_rfl) (fun _ _ _ h => h) (Or.inl ⟨by rfl, ?hy98⟩) (by assumption) ?_
              case hy98 =>
                intro w hSw
                try dsimp only at hSw
                go_simp
                try with_reducible rfl
              clear hop
              try simp only [Act.put, List.setIfInBounds_toArray, List.set_cons_zero, List.set_cons_succ]
              refine heldAt (i := 8) (oi := ?oi99) ?hi99 (fun hop => ?_)
              case hi99 => simp only [List.getElem?_toArray, List.getElem?_cons_succ, List.getElem?_cons_zero]; exact rfl
              refine wpAnyH_take (i := 8) (v := ?_) hop (by kernel_rfl) (by kernel_rfl) (by kernel_rfl) (fun _ _ _ h => h) (Or.inl ⟨by rfl, ?hy99⟩) (by assumption) ?_
              case hy99 =>
                intro w hSw
                try dsimp only at hSw
                go_simp
                try with_reducible rfl
              clear hop
              try simp only [Act.put, List.setIfInBounds_toArray, List.set_cons_zero, List.set_cons_succ]
              refine heldAt (i := 9) (oi := ?oi100) ?hi100 (fun hop => ?_)
              case hi100 => simp only [List.getElem?_toArray, List.getElem?_cons_succ, List.getElem?_cons_zero]; exact rfl
              refine wpAnyH_take (i := 9) (v := undef) hop (by kernel_rfl) (by kernel_rfl) (by kernel_rfl) (fun _ _ _ h => h) (Or.inr ⟨by rfl, rfl⟩) (by assumption) ?_
              clear hop
              try simp only [Act.put, List.setIfInBounds_toArray, List.set_cons_zero, List.set_cons_succ]
              refine heldAt (i := 10) (oi := ?oi101) ?hi101 (fun hop => ?_)
              case hi101 => simp only [List.getElem?_toArray, List.getElem?_cons_succ, List.getElem?_cons_zero]; exact rfl
              refine wpAnyH_take (i := 10) (v := undef) hop (by kernel_rfl) (by kernel_rfl) (by kernel_rfl) (fun _ _ _ h => h) (Or.inr ⟨by rfl, rfl⟩) (by assumption) ?_
              clear hop
              try simp only [Act.put, List.setIfInBounds_toArray, List.set_cons_zero, List.set_cons_succ]
              refine heldAt (i := 11) (oi := ?oi102) ?hi102 (fun hop => ?_)
              case hi102 => simp only [List.getElem?_toArray, List.getElem?_cons_succ, List.getElem?_cons_zero]; exact rfl
              refine wpAnyH_take (i := 11) (v := ?_) hop (by kernel_rfl) (by kernel_rfl) (by kernel_rfl) (fun _ _ _ h => h) (Or.inl ⟨by rfl, ?hy102⟩) (by assumption) ?_
              case hy102 =>
                intro w hSw
                try dsimp only at hSw
                go_simp
                try with_reducible rfl
              clear hop
              try simp only [Act.put, List.setIfInBounds_toArray, List.set_cons_zero, List.set_cons_succ]
              refine heldAt (i := 12) (oi := ?oi103) ?hi103 (fun hop => ?_)
              case hi103 => simp only [List.getElem?_toArray, List.getElem?_cons_succ, List.getElem?_cons_zero]; exact rfl
              refine wpAnyH_take (i := 12) (v := ?_) hop (by kernel_rfl) (by kernel_rfl) (by kernel_rfl) (fun _ _ _ h => h) (Or.inl ⟨by rfl, ?hy103⟩) (by assumption) ?_
              case hy103 =>
                intro w hSw
                try dsimp only at hSw
                go_simp
                try with_reducible rfl
              clear hop
              try simp only [Act.put, List.setIfInBounds_toArray, List.set_cons_zero, List.set_cons_succ]
              refine heldAt (i := 13) (oi := ?oi104) ?hi104 (fun hop => ?_)
              case hi104 => simp only [List.getElem?_toArray, List.getElem?_cons_succ, List.getElem?_cons_zero]; exact rfl
              refine wpAnyH_take (i := 13) (v := ?_) hop (by kernel_rfl) (by kernel_rfl) (by kernel_rfl) (fun _ _ _ h => h) (Or.inl ⟨by rfl, ?hy104⟩) (by assumption) ?_
              case hy104 =>
                intro w hSw
                try dsimp only at hSw
                go_simp
                try with_reducible rfl
              clear hop
              try simp only [Act.put, List.setIfInBounds_toArray, List.set_cons_zero, List.set_cons_succ]
              refine heldAt (i := 14) (oi := ?oi105) ?hi105 (fun hop => ?_)
              case hi105 => simp only [List.getElem?_toArray, List.getElem?_cons_succ, List.getElem?_cons_zero]; exact rfl
              refine wpAnyH_take (i := 14) (v := ?_) hop (by kernel_rfl) (by kernel_rfl) (by kernel_rfl) (fun _ _ _ h => h) (Or.inl ⟨by rfl, ?hy105⟩) (by assumption) ?_
              case hy105 =>
                intro w hSw
                try dsimp only at hSw
                go_simp
                try with_reducible rfl
              clear hop
              try simp only [Act.put, List.setIfInBounds_toArray, List.set_cons_zero, List.set_cons_succ]
              refine heldAt (i := 15) (oi := ?oi106) ?hi106 (fun hop => ?_)
              case hi106 => simp only [List.getElem?_toArray, List.getElem?_cons_succ, List.getElem?_cons_zero]; exact rfl
              refine wpAnyH_take (i := 15) (v := ?_) hop (by kernel_rfl) (by kernel_rfl) (by kernel_rfl) (fun _ _ _ h => h) (Or.inl ⟨by rfl, ?hy106⟩) (by assumption) ?_
              case hy106 =>
                intro w hSw
                try dsimp only at hSw
                go_simp
                try with_reducible rfl
              clear hop
              try simp only [Act.put, List.setIfInBounds_toArray, List.set_cons_zero, List.set_cons_succ]
              refine heldAt (i := 16) (oi := ?oi107) ?hi107 (fun hop => ?_)
              case hi107 => simp only [List.getElem?_toArray, List.getElem?_cons_succ, List.getElem?_cons_zero]; exact rfl
              refine wpAnyH_take (i := 16) (v := ?_) hop (by kernel_rfl) (by kernel_rfl) (by kernel_rfl) (fun _ _ _ h => h) (Or.inl ⟨by rfl, ?hy107⟩) (by assumption) ?_
              case hy107 =>
                intro w hSw
                try dsimp only at hSw
                go_simp
                try with_reducible rfl
              clear hop
              try simp only [Act.put, List.setIfInBounds_toArray, List.set_cons_zero, List.set_cons_succ]
              refine heldAt (i := 18) (oi := ?oi108) ?hi108 (fun hop => ?_)
              case hi108 => simp only [List.getElem?_toArray, List.getElem?_cons_succ, List.getElem?_cons_zero]; exact rfl
              refine wpAnyH_take (i := 18) (v := ?_) hop (by kernel_rfl) (by kernel_rfl) (by kernel_rfl) (fun _ _ _ h => h) (Or.inl ⟨by rfl, ?hy108⟩) (by assumption) ?_
              case hy108 =>
                intro w hSw
                try dsimp only at hSw
                go_simp
                try with_reducible rfl
              clear hop
              try simp only [Act.put, List.setIfInBounds_toArray, List.set_cons_zero, List.set_cons_succ]
              refine heldAt (i := 19) (oi := ?oi109) ?hi109 (fun hop => ?_)
              case hi109 => simp only [List.getElem?_toArray, List.getElem?_cons_succ, List.getElem?_cons_zero]; exact rfl
              refine wpAnyH_take (i := 19) (v := ?_) hop (by kernel_rfl) (by kernel_rfl) (by kernel_rfl) (fun _ _ _ h => h) (Or.inl ⟨by rfl, ?hy109⟩) (by assumption) ?_
              case hy109 =>
                intro w hSw
                try dsimp only at hSw
                go_simp
                try with_reducible rfl
              clear hop
              try simp only [Act.put, List.setIfInBounds_toArray, List.set_cons_zero, List.set_cons_succ]
              refine heldAt (i := 20) (oi := ?oi110) ?hi110 (fun hop => ?_)
              case hi110 => simp only [List.getElem?_toArray, List.getElem?_cons_succ, List.getElem?_cons_zero]; exact rfl
              refine wpAnyH_take (i := 20) (v := ?_) hop (by kernel_rfl) (by kernel_rfl) (by kernel_rfl) (fun _ _ _ h => h) (Or.inl ⟨by rfl, ?hy110⟩) (by assumption) ?_
              case hy110 =>
                intro w hSw
                try dsimp only at hSw
                go_simp
                try with_reducible rfl
              clear hop
              try simp only [Act.put, List.setIfInBounds_toArray, List.set_cons_zero, List.set_cons_succ]
              refine heldAt (i := 21) (oi := ?oi111) ?hi111 (fun hop => ?_)
              case hi111 => simp only [List.getElem?_toArray, List.getElem?_cons_succ, List.getElem?_cons_zero]; exact rfl
              refine wpAnyH_take (i := 21) (v := ?_) hop (by kernel_rfl) (by kernel_rfl) (by kernel_rfl) (fun _ _ _ h => h) (Or.inl ⟨by rfl, ?hy111⟩) (by assumption) ?_
              case hy111 =>
                intro w hSw
                try dsimp only at hSw
                go_simp
                try with_reducible rfl
              clear hop
              try simp only [Act.put, List.setIfInBounds_toArray, List.set_cons_zero, List.set_cons_succ]
              refine heldAt (i := 17) (oi := ?oi112) ?hi112 (fun hop => ?_)
              case hi112 => simp only [List.getElem?_toArray, List.getElem?_cons_succ, List.getElem?_cons_zero]; exact rfl
              refine wpAnyH_ready (rs := [17]) (by kernel_rfl) (by simp) ?_
              refine AllReadyH.cons hop (fun K hK => ?_) AllReadyH.nil
              clear hop
              go_simp
              (refine (tree_above (r := true) ((h5.pull 1).drewN 1) HKX.out HAB.out).mono ?_; rintro e w11 ⟨rfl, h6, k6⟩)
              refine hK.out _ _ ?_ (fun hHeld => ?_)
              · exact ⟨own_node (h6.pull 4), bool_at (h6.pull 2) HUA.out⟩
              clear hK K
              try simp only [Act.put, List.setIfInBounds_toArray, List.set_cons_zero, List.set_cons_succ]
              refine heldAt (i := 22) (oi := ?oi113) ?hi113 (fun hop => ?_)
              case hi113 => simp only [List.getElem?_toArray, List.getElem?_cons_succ, List.getElem?_cons_zero]; exact rfl
              refine wpAnyH_take (i := 22) (v := ?_) hop (by kernel_rfl) (by kernel_rfl) (by kernel_rfl) (fun _ _ _ h => h) (Or.inl ⟨by rfl, ?hy113⟩) (by assumption) ?_
              case hy113 =>
                intro w hSw
                try dsimp only at hSw
                go_simp
                try with_reducible rfl
              clear hop
              try simp only [Act.put, List.setIfInBounds_toArray, List.set_cons_zero, List.set_cons_succ]
              refine heldAt (i := 23) (oi := ?oi114) ?hi114 (fun hop => ?_)
              case hi114 => simp only [List.getElem?_toArray, List.getElem?_cons_succ, List.getElem?_cons_zero]; exact rfl
              refine wpAnyH_take (i := 23) (v := undef) hop (by kernel_rfl) (by kernel_rfl) (by kernel_rfl) (fun _ _ _ h => h) (Or.inr ⟨by rfl, rfl⟩) (by assumption) ?_
              clear hop
              try simp only [Act.put, List.setIfInBounds_toArray, List.set_cons_zero, List.set_cons_succ]
              refine heldAt (i := 24) (oi := ?oi115) ?hi115 (fun hop => ?_)
              case hi115 => simp only [List.getElem?_toArray, List.getElem?_cons_succ, List.getElem?_cons_zero]; exact rfl
              refine wpAnyH_take (i := 24) (v := undef) hop (by kernel_rfl) (by kernel_rfl) (by kernel_rfl) (fun _ _ _ h => h) (Or.inr ⟨by rfl, rfl⟩) (by assumption) ?_
              clear hop
              try simp only [Act.put, List.setIfInBounds_toArray, List.set_cons_zero, List.set_cons_succ]
              refine heldAt (i := 25) (oi := ?oi116) ?hi116 (fun hop => ?_)
              case hi116 => simp only [List.getElem?_toArray, List.getElem?_cons_succ, List.getElem?_cons_zero]; exact rfl
              refine wpAnyH_take (i := 25) (v := undef) hop (by kernel_rfl) (by kernel_rfl) (by kernel_rfl) (fun _ _ _ h => h) (Or.inr ⟨by rfl, rfl⟩) (by assumption) ?_
              clear hop
              try simp only [Act.put, List.setIfInBounds_toArray, List.set_cons_zero, List.set_cons_succ]
              refine heldAt (i := 26) (oi := ?oi117) ?hi117 (fun hop => ?_)
              case hi117 => simp only [List.getElem?_toArray, List.getElem?_cons_succ, List.getElem?_cons_zero]; exact rfl
              refine wpAnyH_take (i := 26) (v := undef) hop (by kernel_rfl) (by kernel_rfl) (by kernel_rfl) (fun _ _ _ h => h) (Or.inr ⟨by rfl, rfl⟩) (by assumption) ?_
              clear hop
              try simp only [Act.put, List.setIfInBounds_toArray, List.set_cons_zero, List.set_cons_succ]
              refine heldAt (i := 27) (oi := ?oi118) ?hi118 (fun hop => ?_)
              case hi118 => simp only [List.getElem?_toArray, List.getElem?_cons_succ, List.getElem?_cons_zero]; exact rfl
              refine wpAnyH_take (i := 27) (v := ?_) hop (by kernel_rfl) (by kernel_rfl) (by kernel_rfl) (fun _ _ _ h => h) (Or.inl ⟨by rfl, ?hy118⟩) (by assumption) ?_
              case hy118 =>
                intro w hSw
                try dsimp only at hSw
                go_simp
                try with_reducible rfl
              clear hop
              try simp only [Act.put, List.setIfInBounds_toArray, List.set_cons_zero, List.set_cons_succ]
              refine heldAt (i := 28) (oi := ?oi119) ?hi119 (fun hop => ?_)
              case hi119 => simp only [List.getElem?_toArray, List.getElem?_cons_succ, List.getElem?_cons_zero]; exact rfl
              refine wpAnyH_take (i := 28) (v := ?_) hop (by kernel_rfl) (by kernel_rfl) (by kernel_rfl) (fun _ _ _ h => h) (Or.inl ⟨by rfl, ?hy119⟩) (by assumption) ?_
              case hy119 =>
                intro w hSw
                try dsimp only at hSw
                go_simp
                try with_reducible rfl
              clear hop
              try simp only [Act.put, List.setIfInBounds_toArray, List.set_cons_zero, List.set_cons_succ]
              refine heldAt (i := 29) (oi := ?oi120) ?hi120 (fun hop => ?_)
              case hi120 => simp only [List.getElem?_toArray, List.getElem?_cons_succ, List.getElem?_cons_zero]; exact rfl
              refine wpAnyH_take (i := 29) (v := ?_) hop (by kernel_rfl) (by kernel_rfl) (by kernel_rfl) (fun _ _ _ h => h) (Or.inl ⟨by rfl, ?hy120⟩) (by assumption) ?_
              case hy120 =>
                intro w hSw
                try dsimp only at hSw
                go_simp
                try with_reducible rfl
              clear hop
              try simp only [Act.put, List.setIfInBounds_toArray, List.set_cons_zero, List.set_cons_succ]
              refine wpAnyH_done (by kernel_rfl) ?_ _
              clear c2 ui
              go_wp2_with fail
              go_roundw
              case rel => exact ⟨i + 1, by omega, by go_num, (h6.pull 1).tail, (k5.drewN 1).trans k6⟩
              case measure => simp [intOf]; omega
        obtain rfl : q = i := by omega
        cases r with
        | false =>
          have hff := HOF.out rfl
          subst hff
          have hA0 := tree_all h2 HF'.out
          go_wp2_with fail
          refine hA0.mono ?_
          rintro e w9 ⟨S2, v2, hS2, rfl, h4, k4⟩
          rw [HKS.out S2 hS2] at h4
          have k4 := k2.trans k4
          have hS0 := same_list (h4.pull 3).swap (by rw [← HQK.out]; omega)
          clear hA0 h2 k2 hS2
          go_wp2_with fail
          refine hS0.mono ?_
          rintro e w10 ⟨rfl, h5, k5⟩
          go_wp2_with fail
          go_ret
          exact ⟨rfl, (h5.pull 6).below (k4.trans k5)⟩
        | true =>
          have c2 := own_node (h2.pull 3)
          have c3 := (h2.pull 3).cell 3
          have c4 := (h2.pull 3).cell 4
          simp at c3 c4
          have hS0 := tree_spot (n := node) (h2.drewN 1)
          rw [HAT.out rfl] at hS0
          simp only [vL] at hS0
          have heq := spot_eq up name
          go_upto_region 28 with (fail)
          refine wp_region_held_drew (S := (fun w' => w'.cell? ⟨O, 2, none⟩ = some (.int .i64 node) ∧ w'.cell? ⟨O, 3, none⟩ = some (.int .i64 up) ∧ w'.cell? ⟨O, 4, none⟩ = some (.string name))) (by kernel_rfl) ?_ (fun hHeld => ?_)
          · exact ⟨c2, c3, c4⟩
          refine heldAt (i := 0) (oi := ?oi121) ?hi121 (fun hop => ?_)
          case hi121 => simp only [List.getElem?_toArray, List.getElem?_cons_succ, List.getElem?_cons_zero]; exact rfl
          refine wpAnyH_take (i := 0) (v := ?_) hop (by kernel_rfl) (by kernel_rfl) (by kernel_rfl) (fun _ _ _ h => h) (Or.inl ⟨by rfl, ?hy121⟩) (by assumption) ?_
          case hy121 =>
            intro w hSw
            try dsimp only at hSw
            go_simp
            try with_reducible rfl
          clear hop
          try simp only [Act.put, List.setIfInBounds_toArray, List.set_cons_zero, List.set_cons_succ]
          refine heldAt (i := 1) (oi := ?oi122) ?hi122 (fun hop => ?_)
          case hi122 => simp only [List.getElem?_toArray, List.getElem?_cons_succ, List.getElem?_cons_zero]; exact rfl
          refine wpAnyH_take (i := 1) (v := ?_) hop (by kernel_rfl) (by kernel_rfl) (by kernel_rfl) (fun _ _ _ h => h) (Or.inl ⟨by rfl, ?hy122⟩) (by assumption) ?_
          case hy122 =>
            intro w hSw
            try dsimp only at hSw
            go_simp
            try with_reducible rfl
          clear hop
          try simp only [Act.put, List.setIfInBounds_toArray, List.set_cons_zero, List.set_cons_succ]
          refine heldAt (i := 2) (oi := ?oi123) ?hi123 (fun hop => ?_)
          case hi123 => simp only [List.getElem?_toArray, List.getElem?_cons_succ, List.getElem?_cons_zero]; exact rfl
          refine wpAnyH_take (i := 2) (v := ?_) hop (by kernel_rfl) (by kernel_rfl) (by kernel_rfl) (fun _ _ _ h => h) (Or.inl ⟨by rfl, ?hy123⟩) (by assumption) ?_
          case hy123 =>
            intro w hSw
            try dsimp only at hSw
            go_simp
            try with_reducible rfl
          clear hop
          try simp only [Act.put, List.setIfInBounds_toArray, List.set_cons_zero, List.set_cons_succ]
          refine heldAt (i := 3) (oi := ?oi124) ?hi124 (fun hop => ?_)
          case hi124 => simp only [List.getElem?_toArray, List.getElem?_cons_succ, List.getElem?_cons_zero]; exact rfl
          refine wpAnyH_take (i := 3) (v := ?_) hop (by kernel_rfl) (by kernel_rfl) (by kernel_rfl) (fun _ _ _ h => h) (Or.inl ⟨by rfl, ?hy124⟩) (by assumption) ?_
          case hy124 =>
            intro w hSw
            try dsimp only at hSw
            go_simp
            try with_reducible rfl
          clear hop
          try simp only [Act.put, List.setIfInBounds_toArray, List.set_cons_zero, List.set_cons_succ]
          refine heldAt (i := 4) (oi := ?oi125) ?hi125 (fun hop => ?_)
          case hi125 => simp only [List.getElem?_toArray, List.getElem?_cons_succ, List.getElem?_cons_zero]; exact rfl
          refine wpAnyH_take (i := 4) (v := ?_) hop (by kernel_rfl) (by kernel_rfl) (by kernel_rfl) (fun _ _ _ h => h) (Or.inl ⟨by rfl, ?hy125⟩) (by assumption) ?_
          case hy125 =>
            intro w hSw
            try dsimp only at hSw
            go_simp
            try with_reducible rfl
          clear hop
          try simp only [Act.put, List.setIfInBounds_toArray, List.set_cons_zero, List.set_cons_succ]
          refine heldAt (i := 6) (oi := ?oi126) ?hi126 (fun hop => ?_)
          case hi126 => simp only [List.getElem?_toArray, List.getElem?_cons_succ, List.getElem?_cons_zero]; exact rfl
          refine wpAnyH_take (i := 6) (v := ?_) hop (by kernel_rfl) (by kernel_rfl) (by kernel_rfl) (fun _ _ _ h => h) (Or.inl ⟨by rfl, ?hy126⟩) (by assumption) ?_
          case hy126 =>
            intro w hSw
            try dsimp only at hSw
            go_simp
            try with_reducible rfl
          clear hop
          try simp only [Act.put, List.setIfInBounds_toArray, List.set_cons_zero, List.set_cons_succ]
          refine heldAt (i := 7) (oi := ?oi127) ?hi127 (fun hop => ?_)
          case hi127 => simp only [List.getElem?_toArray, List.getElem?_cons_succ, List.getElem?_cons_zero]; exact rfl
          refine wpAnyH_take (i := 7) (v := ?_) hop (by kernel_rfl) (by kernel_rfl) (by kernel_rfl) (fun _ _ _ h => h) (Or.inl ⟨by rfl, ?hy127⟩) (by assumption) ?_
          case hy127 =>
            intro w hSw
            try dsimp only at hSw
            go_simp
            try with_reducible rfl
          clear hop
          try simp only [Act.put, List.setIfInBounds_toArray, List.set_cons_zero, List.set_cons_succ]
          refine heldAt (i := 8) (oi := ?oi128) ?hi128 (fun hop => ?_)
          case hi128 => simp only [List.getElem?_toArray, List.getElem?_cons_succ, List.getElem?_cons_zero]; exact rfl
          refine wpAnyH_take (i := 8) (v := ?_) hop (by kernel_rfl) (by kernel_rfl) (by kernel_rfl) (fun _ _ _ h => h) (Or.inl ⟨by rfl, ?hy128⟩) (by assumption) ?_
          case hy128 =>
            intro w hSw
            try dsimp only at hSw
            go_simp
            try with_reducible rfl
          clear hop
          try simp only [Act.put, List.setIfInBounds_toArray, List.set_cons_zero, List.set_cons_succ]
          refine heldAt (i := 9) (oi := ?oi129) ?hi129 (fun hop => ?_)
          case hi129 => simp only [List.getElem?_toArray, List.getElem?_cons_succ, List.getElem?_cons_zero]; exact rfl
          refine wpAnyH_take (i := 9) (v := ?_) hop (by kernel_rfl) (by kernel_rfl) (by kernel_rfl) (fun _ _ _ h => h) (Or.inl ⟨by rfl, ?hy129⟩) (by assumption) ?_
          case hy129 =>
            intro w hSw
            try dsimp only at hSw
            go_simp
            try with_reducible rfl
          clear hop
          try simp only [Act.put, List.setIfInBounds_toArray, List.set_cons_zero, List.set_cons_succ]
          refine heldAt (i := 10) (oi := ?oi130) ?hi130 (fun hop => ?_)
          case hi130 => simp only [List.getElem?_toArray, List.getElem?_cons_succ, List.getElem?_cons_zero]; exact rfl
          refine wpAnyH_take (i := 10) (v := ?_) hop (by kernel_rfl) (by kernel_rfl) (by kernel_rfl) (fun _ _ _ h => h) (Or.inl ⟨by rfl, ?hy130⟩) (by assumption) ?_
          case hy130 =>
            intro w hSw
            try dsimp only at hSw
            go_simp
            try with_reducible rfl
          clear hop
          try simp only [Act.put, List.setIfInBounds_toArray, List.set_cons_zero, List.set_cons_succ]
          refine heldAt (i := 5) (oi := ?oi131) ?hi131 (fun hop => ?_)
          case hi131 => simp only [List.getElem?_toArray, List.getElem?_cons_succ, List.getElem?_cons_zero]; exact rfl
          refine wpAnyH_ready (rs := [5]) (by kernel_rfl) (by simp) ?_
          refine AllReadyH.cons hop (fun K hK => ?_) AllReadyH.nil
          clear hop
          go_simp
          (refine hS0.mono ?_; rintro e w11 ⟨rfl, h6, k6⟩; have d3 := (h6.pull 3).cell 3; have d4 := (h6.pull 3).cell 4; simp at d3 d4)
          refine hK.out _ _ ?_ (fun hHeld => ?_)
          · exact ⟨own_node (h6.pull 3), d3, d4⟩
          clear hK K
          try simp only [Act.put, List.setIfInBounds_toArray, List.set_cons_zero, List.set_cons_succ]
          refine heldAt (i := 11) (oi := ?oi132) ?hi132 (fun hop => ?_)
          case hi132 => simp only [List.getElem?_toArray, List.getElem?_cons_succ, List.getElem?_cons_zero]; exact rfl
          refine wpAnyH_take (i := 11) (v := ?_) hop (by kernel_rfl) (by kernel_rfl) (by kernel_rfl) (fun _ _ _ h => h) (Or.inl ⟨by rfl, ?hy132⟩) (by assumption) ?_
          case hy132 =>
            intro w hSw
            try dsimp only at hSw
            go_simp
            try with_reducible rfl
          clear hop
          try simp only [Act.put, List.setIfInBounds_toArray, List.set_cons_zero, List.set_cons_succ]
          refine heldAt (i := 12) (oi := ?oi133) ?hi133 (fun hop => ?_)
          case hi133 => simp only [List.getElem?_toArray, List.getElem?_cons_succ, List.getElem?_cons_zero]; exact rfl
          refine wpAnyH_take (i := 12) (v := ?_) hop (by kernel_rfl) (by kernel_rfl) (by kernel_rfl) (fun _ _ _ h => h) (Or.inl ⟨by rfl, ?hy133⟩) (by assumption) ?_
          case hy133 =>
            intro w hSw
            try dsimp only at hSw
            go_simp
            try with_reducible rfl
          clear hop
          try simp only [Act.put, List.setIfInBounds_toArray, List.set_cons_zero, List.set_cons_succ]
          refine heldAt (i := 13) (oi := ?oi134) ?hi134 (fun hop => ?_)
          case hi134 => simp only [List.getElem?_toArray, List.getElem?_cons_succ, List.getElem?_cons_zero]; exact rfl
          refine wpAnyH_take (i := 13) (v := ?_) hop (by kernel_rfl) (by kernel_rfl) (by kernel_rfl) (fun _ _ _ h => h) (Or.inl ⟨by rfl, ?hy134⟩) (by assumption) ?_
          case hy134 =>
            intro w hSw
            try dsimp only at hSw
            go_simp
            try with_reducible rfl
          clear hop
          try simp only [Act.put, List.setIfInBounds_toArray, List.set_cons_zero, List.set_cons_succ]
          refine wpAnyH_done (by kernel_rfl) ?_ _
          clear c2 c3 c4 hS0 heq
          go_wp2_with fail
          go_ret
          exact ⟨rfl, (h6.pull 5).below ((k2.drewN 1).trans k6)⟩

end Go.Proofs.YtbnipieokpeadaaDoor

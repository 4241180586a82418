import Derived.Test.YtkcgbenhnhbhhaaEpoch4
namespace Go.Proofs.Ytkcgbenhnhbhhaa
open Go Go.RowKit
set_option linter.unusedVariables false
set_option linter.unusedSimpArgs false

set_option maxRecDepth 100000 in
theorem clone_waits {w : World} {l : List HProp} {ws : List WaitD} {v : Value} (hs : Sat w (rowT fW v 110 3 ws :: l)) (hm : ws.length ≤ 1000000) :
    Calls Try.prog 61 #[v] w fun e w' => ∃ vo, e = .returned vo ∧ Sat w' (rowT fW vo 110 3 ws :: rowT fW v 110 3 ws :: l) ∧ Kp w w' := by
  obtain ⟨i0, hi, hz0, hz1, hz2⟩ := info_parts Try.infoWaits
  have hnil : ∀ (W : World) (a : Option Addr) (n c n' c' : Nat), (binOp .eql 106 (.slice a n c) (.slice none n' c')).run Try.prog W = .ok (.bool a.isNone) W := fun W a n c n' c' => Lib.run_eql_slice_nil W _ _ a n c n' c' Try.underlying106
  rcases hs.tForm with ⟨rfl, rfl⟩ | ⟨g, off, cap, rfl⟩
  · go_enter Try.func61, Try.ntmps61
    go_wp2_with fail
    go_ret
    exact ⟨_, rfl, hs.tNil _ _ _, Kp.refl w⟩
  · have hE := hs.rowEmpty 110 3
    have hg := hs.rowBlock
    have hy : ∀ j u, (ws.flatMap fW)[j]? = some u → w.cell? ⟨g, off + j, none⟩ = some u := by
      intro j u hj
      have hlt := (List.getElem?_eq_some_iff.1 hj).1
      rw [len_flat len_fW] at hlt
      rw [hs.rowCell j hlt]; exact hj
    go_enter Try.func61, Try.ntmps61
    go_wp2_with (at_builtin; refine wpList_append_row rfl (.tmp 5) (.tmp 6) 106 rfl 110 i0 _ 3 24 Try.underlying106 hi hz0 hz1 hz2 rfl (by decide) _ _ _ _ rfl hE ⟨g, off, none⟩ ws.length cap (ws.flatMap fW) rfl ?c0 ?c1 ?c2 ?c3 ?c4 ?c5)
    case c0 => rw [len_flat len_fW]
    case c1 => intro j u hj; rw [Addr.add_lit, World.cell?_alloc_lt _ _ _ hg]; exact hy j u hj
    case c2 => exact one_fW _
    case c3 => unfold maxLen; omega
    case c4 => omega
    case c5 =>
      intro v' w1 hs1 hk
      go_wp2_with fail
      go_ret
      exact ⟨_, rfl, hs1.tOf ws (by simp) (by simp), ((Kp.refl w).alloc _).trans hk⟩

theorem Sat.tPut' {α : Type} {f : α → List Value} {w : World} {e : TypeId} {size : Nat} {xs : List α} {l : List HProp} {g off n cap : Nat} (hf : ∀ x, (f x).length = size) (hs : Sat w (rowT f (.slice (some ⟨g, off, none⟩) n cap) e size xs :: l)) (i : Nat) (y : α) (hi : i < xs.length) :
    Sat (World.putCells w g (off + i * size) (f y)) (rowT f (.slice (some ⟨g, off, none⟩) n cap) e size (xs.set i y) :: l) := by
  obtain ⟨_, hn, _⟩ := hs.tCap
  rw [hn] at hs ⊢
  exact hs.tPut hf i y hi

set_option maxRecDepth 100000 in
set_option maxHeartbeats 1000000 in
theorem delete_free {w : World} {l : List HProp} {b bl bq : Nat} {now least : Int} {v0 : Value} {ws : List WaitD} {v : Value}
    (hs : Sat w (mayNeeds b bl bq now least v0 (rowT fW v 110 3 ws :: l))) (h0 : 0 ≤ now) (h1 : now < 9000000000000000000) (hm : ws.length ≤ 1000000) :
    Calls Try.prog 60 #[v, .func (.func 58) #[] #[.pointer (some ⟨bq, 0, none⟩), .pointer (some ⟨bl, 0, none⟩)]] w fun e w' => ∃ vo, e = .returned vo ∧ Sat w' (mayNeeds b bl bq now least v0 (rowT fW vo 110 3 (ws.filter fun x => !may now least x) :: l)) ∧ Kp w w' := by
  obtain ⟨i0, hi, hz0, hz1, hz2⟩ := info_parts Try.infoWaits
  obtain ⟨vao, vcap, rfl⟩ := (hs.pull 3).tLen
  go_enter Try.func60, Try.ntmps60
  go_wp2_with fail
  refine (index_free hs h0 h1 hm).mono ?_
  rintro e w1 ⟨j, rfl, hf, hs1, k1⟩
  rcases hf with ⟨rfl, hf⟩ | ⟨k, rfl, hk, hf, x, hx, hp⟩
  · have hf2 : ws.filter (fun x => !may now least x) = ws := by
      rw [List.filter_eq_self]
      intro a ha
      rw [List.filter_eq_nil_iff] at hf
      simpa using hf a ha
    have HF := Lib.hid hf2
    clear hf hf2
    go_wp2_with fail
    go_ret
    exact ⟨_, rfl, by rw [HF.out]; exact hs1, k1⟩
  rcases (hs1.pull 3).tForm with ⟨he, hw0⟩ | ⟨g, off, cap, he⟩
  · rw [hw0] at hk; simp at hk
  simp only [Value.slice.injEq, true_and] at he
  obtain ⟨rfl, rfl⟩ := he
  have hne : ((k : Int) == -1) = false := by simp
  have hcap := ((hs1.pull 3).tCap).1
  have hstart : Hid (ws.take k = (ws.take (k + 1)).filter fun x => !may now least x) := by
    show _ = _
    rw [take_snoc' hx, List.filter_append]
    rw [List.filter_eq_nil_iff] at hf
    rw [List.filter_eq_self.2 (fun a ha => by simpa using hf a ha)]
    simp [hp]
  clear hf hx hp
  generalize hn : ws.length = n at *
  have HN := Lib.hid hn
  clear hn
  go_wp2_with fail
  go_loopw [5, 6] (fun i j wr => ∃ (a c : Nat) (us : List WaitD), i = .int .i64 a ∧ j = .int .i64 c ∧ a < c ∧ c ≤ n ∧ Hid (us.length = n) ∧ Hid (us.take a = (ws.take c).filter fun x => !may now least x) ∧ Hid (us.drop c = ws.drop c) ∧ Sat wr (mayNeeds b bl bq now least v0 (rowT fW (.slice (some ⟨g, off, none⟩) n vcap) 110 3 us :: l)) ∧ Kp w wr) (fun _ j _ => n - (intOf j).toNat)
  case atStart => exact ⟨k, k + 1, ws, rfl, by go_num, by omega, by omega, HN, hstart, rfl, hs1, k1⟩
  case round =>
    clear hs hs1 k1 hstart
    obtain ⟨a, c, us, rfl, rfl, hac, hcn, hun, hta, hdr, hs1, hkp⟩ := hrel
    by_cases hlt : c < n
    case neg =>
      have hc : c = n := by omega
      have hta2 : Hid (us.take a = ws.filter fun x => !may now least x) := by
        show _ = _
        rw [hta.out, hc, ← HN.out, List.take_length]
      have hR := hs1.pull 3
      unfold rowT at hR
      rw [hun.out] at hR
      have a0 : (0 : Int) ≤ (a : Int) := by omega
      have a1 : (a : Int) < (n : Int) := by omega
      have a2 : (a : Int) ≤ (n : Int) := by omega
      have a3 : ¬ vcap = a := by omega
      have a4 : (a : Int) ≤ (vcap : Int) := by omega
      have a5 : (n : Int) ≤ (vcap : Int) := by omega
      obtain ⟨w2, hr, h2, k2⟩ := run_clear_row (P := Try.prog) 106 0 110 (.agg #[.int .i64 0, .int .i64 0, .int .i64 0]) 3 Try.underlying106 (by intro w; simp [zeroValue, typeInfo, hi, hz0]) rfl rfl (by decide) hR a (by omega) (c := vcap - a)
      go_wp2_with fail
      go_ret
      have h3 := (h2.tOf (us.take a) (by rw [List.length_take, hun.out]; omega) (by rw [flat_take len_fW]))
      rw [hta2.out] at h3
      exact ⟨_, rfl, h3.push 3, hkp.trans k2⟩
    obtain ⟨x, hx⟩ : ∃ x, ws[c]? = some x := ⟨ws[c]'(by rw [HN.out]; exact hlt), by simp⟩
    have hux : us[c]? = some x := by
      have e1 := congrArg (fun l => l[0]?) hdr.out
      simp only [List.getElem?_drop, Nat.add_zero] at e1
      rw [e1]; exact hx
    have q0 := (hs1.pull 3).tCell len_fW c 0 hux rfl
    have q1 := (hs1.pull 3).tCell len_fW c 1 hux rfl
    have q2 := (hs1.pull 3).tCell len_fW c 2 hux rfl
    rw [Nat.add_zero] at q0
    have hgl : g < wr.heap.size := World.block_lt_of_cell? _ _ q0
    have hnext := take_snoc' hx
    have hdr2 : us.drop (c + 1) = ws.drop (c + 1) := by
      have e1 := congrArg (fun l => l.drop 1) hdr.out
      simpa [List.drop_drop, Nat.add_comm] using e1
    have j0 : (0 : Int) ≤ (c : Int) := by omega
    have j1 : (c : Int) < (n : Int) := by omega
    have a0 : (0 : Int) ≤ (a : Int) := by omega
    have a1 : (a : Int) < (n : Int) := by omega
    have hB := (hs1.alloc (.cells #[.int .i64 x.slot, .int .i64 x.gen, .int .i64 x.by_] 110))
    have kB := hkp.alloc (.cells #[.int .i64 x.slot, .int .i64 x.gen, .int .i64 x.by_] 110)
    have HNX := Lib.hid hnext
    have HDR := Lib.hid hdr2
    clear hx hux hnext hdr2
    go_wp2_with fail
    generalize hW : wr.alloc _ = w1 at hB kB ⊢
    clear hW q0 q1 q2 hs1
    generalize wr.heap.size = B at hB hgl ⊢
    refine (free_may' (A := []) x (l := _) (((hB.pull 3).pull 3).pull 3) h0 h1).mono ?_
    rintro e w2 ⟨rfl, h2, k2⟩
    have k3 := kB.trans k2
    have hr0 := (h2.pull 3).cell 0
    have hr1 := (h2.pull 3).cell 1
    have hr2 := (h2.pull 3).cell 2
    have hBl := (h2.pull 3).lt
    simp at hr0 hr1 hr2
    by_cases hp : may now least x = true
    · have hout3 : Hid (us.take a = (ws.take (c + 1)).filter fun x => !may now least x) := by
        show _ = _
        rw [HNX.out, List.filter_append, hta.out]
        simp [hp]
      go_wp2_with fail
      go_roundw
      case rel => exact ⟨a, c + 1, us, rfl, by go_num, by omega, by omega, hun, hout3, HDR, (h2.pull 3).tail, k3⟩
      case measure => simp [intOf]; omega
    · have hp' : may now least x = false := by simpa using hp
      clear hp
      have hul : a < us.length := by rw [hun.out]; omega
      have hout3 : Hid ((us.set a x).take (a + 1) = (ws.take (c + 1)).filter fun x => !may now least x) := by
        show _ = _
        rw [HNX.out, List.filter_append, ← hta.out, take_snoc' (get_set_self hul), List.take_set_of_le (Nat.le_refl a)]
        simp [hp']
      have hdr3 : Hid ((us.set a x).drop (c + 1) = ws.drop (c + 1)) := by
        show _ = _
        rw [List.drop_set_of_lt (by omega)]; exact HDR.out
      have hun3 : Hid ((us.set a x).length = n) := by
        show _ = _
        rw [List.length_set]; exact hun.out
      have hG := h2.pull 4
      have z0 := hG.rowFree (off + a * 3 + 0)
      have z1 := hG.rowFree (off + a * 3 + 1)
      have z2 := hG.rowFree (off + a * 3 + 2)
      have hgg := hG.rowBlock
      have hP := hG.tPut' len_fW a x hul
      have kP := Kp.putCells (g := g) (fW x) (off + a * 3) k3
      obtain ⟨y, hy⟩ : ∃ y, us[a]? = some y := ⟨us[a], by simp⟩
      have y0 := hG.tCell len_fW a 0 hy rfl
      have y1 := hG.tCell len_fW a 1 hy rfl
      have y2 := hG.tCell len_fW a 2 hy rfl
      rw [Nat.add_zero] at y0 z0
      clear hy hul
      go_wp2_with fail
      go_roundw
      case rel => exact ⟨a + 1, c + 1, us.set a x, by go_num, by go_num, by omega, by omega, hun3, hout3, hdr3, ((hP.pull 4).tail.push 3), kP⟩
      case measure => simp [intOf]; omega

end Go.Proofs.Ytkcgbenhnhbhhaa

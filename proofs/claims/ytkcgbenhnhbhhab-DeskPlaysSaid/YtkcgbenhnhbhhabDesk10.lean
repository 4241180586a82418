import Derived.Test.YtkcgbenhnhbhhabDesk9
namespace Go.Proofs.Ytkcgbenhnhbhhab
open Go Go.RowKit
set_option linter.unusedVariables false
set_option linter.unusedSimpArgs false

theorem rd_send_shut {w : World} {l : List HProp} {c : Nat} {R : RD} {m : Int} (hs : Sat w (rdP c R :: l)) (hc : R.shut = true) :
    Calls Try.prog 15 #[.pointer (some ⟨c, 0, none⟩), .int .i64 m] w fun e w' => e = .returned (.int .i64 8) ∧ Sat w' (rdP c R :: l) ∧ Kp w w' := by
  obtain ⟨vp, vr, vl, hv⟩ := rdP_E hs
  have c8 := hv.cell 8
  simp [rdC, hc] at c8
  go_enter Try.func15, Try.ntmps15
  go_wp2_with fail
  go_ret
  exact ⟨rfl, hs, Kp.refl w⟩

theorem rd_send_full {w : World} {l : List HProp} {c : Nat} {R : RD} {m : Int} (hs : Sat w (rdP c R :: l)) (hc : R.shut = false) (hf : (R.l.length : Int) = R.most) :
    Calls Try.prog 15 #[.pointer (some ⟨c, 0, none⟩), .int .i64 m] w fun e w' => e = .returned (.int .i64 7) ∧ Sat w' (rdP c R :: l) ∧ Kp w w' := by
  obtain ⟨vp, vr, vl, hv⟩ := rdP_E hs
  obtain ⟨ao, cap, rfl⟩ := (hv.pull 3).tLen
  have c8 := hv.cell 8
  have c7 := hv.cell 7
  have c1 := hv.cell 1
  simp [rdC, hc] at c8 c7 c1
  have hb : ((R.l.length : Int) == R.most) = true := by simpa using hf
  clear hf
  go_enter Try.func15, Try.ntmps15
  go_wp2_with fail
  go_quiet (fail)
  go_wp2_with fail
  go_ret
  exact ⟨rfl, hs.drewN _, (Kp.refl w).drewN _⟩

set_option maxRecDepth 100000 in
theorem rd_send {w : World} {l : List HProp} {c : Nat} {R : RD} {m : Int} (hs : Sat w (rdP c R :: l)) (hc : R.shut = false) (hf : (R.l.length : Int) ≠ R.most) (hl : R.l.length ≤ 1000000) :
    Calls Try.prog 15 #[.pointer (some ⟨c, 0, none⟩), .int .i64 m] w fun e w' => e = .returned (.int .i64 0) ∧ Sat w' (rdP c { R with l := R.l ++ [m] } :: l) ∧ Kp w w' := by
  obtain ⟨i1, hi1, hz10, hz11, hz12⟩ := info_parts Try.infoInt2
  obtain ⟨vp, vr, vl, hv⟩ := rdP_E hs
  obtain ⟨ao, cap, rfl⟩ := (hv.pull 3).tLen
  have c8 := hv.cell 8
  have c7 := hv.cell 7
  have c1 := hv.cell 1
  simp [rdC, hc] at c8 c7 c1
  have hb : ((R.l.length : Int) == R.most) = false := by simpa using hf
  clear hf
  go_enter Try.func15, Try.ntmps15
  go_wp2_with fail
  go_quiet (fail)
  have h2 := hv.drewN nq
  have k2 := (Kp.refl w).drewN nq
  generalize w.drewN nq = w2 at h2 k2 ⊢
  clear c8 c7 c1 hv hs
  have c7 := h2.cell 7
  have hcl := h2.lt
  simp [rdC] at c7
  have hB := h2.alloc (.cells #[.int .i64 m] 3)
  go_wp2_with (at_builtin; refine wpList_append_lit rfl (.tmp 23) (.tmp 25) 31 rfl 3 i1 _ 1 8 Try.underlying31 hi1 hz10 hz11 hz12 rfl (by decide) _ _ _ _ _ _ _ rfl (hB.pull 4) 1 1 rfl rfl rfl ?c3 ?c4 ?c5)
  case c3 => unfold maxLen; omega
  case c4 => omega
  case c5 =>
    intro v' w3 hs3 hk3
    have h4 : Sat _ (rowT fI v' 3 1 (R.l ++ [m]) :: _) := Sat.tSnoc (f := fI) (x := m) hs3 rfl
    obtain ⟨a4, p4, e4⟩ := h4.tLen
    rw [List.length_append, List.length_singleton] at e4
    subst e4
    have e1 := (h4.pull 2).cell 7
    have e2 := (h4.pull 2).free 7
    simp [rdC] at e1
    have h5 := (h4.pull 2).set 7 (.slice a4 (R.l.length + 1) p4)
    go_wp2_with fail
    go_ret
    exact ⟨rfl, rdP_I (R := { R with l := R.l ++ [m] }) ((h5.pull 2).tail.pull 1 |>.push 3), ((k2.alloc _).trans hk3).setCell _ _⟩

theorem set_repl (n k : Nat) (h : k < n) : (List.replicate k (-1 : Int) ++ List.replicate (n - k) 0).set k (-1) = List.replicate (k + 1) (-1 : Int) ++ List.replicate (n - (k + 1)) 0 := by
  obtain ⟨m, hm⟩ : ∃ m, n - k = m + 1 := ⟨n - k - 1, by omega⟩
  rw [hm, show n - (k + 1) = m by omega, List.set_append_right _ _ (by simp), List.replicate_succ, List.replicate_succ', List.append_assoc]
  simp

def newR (n : Nat) (most : Int) : RD := ⟨n, most, 0, 0, 0, List.replicate n 0, List.replicate n (-1), [], false⟩

set_option maxRecDepth 100000 in
set_option maxHeartbeats 1000000 in
theorem rd_new (n : Nat) (most : Int) (w : World) (l : List HProp) (hs : Sat w l) (hn : n ≤ 64) :
    Calls Try.prog 6 #[.int .i64 n, .int .i64 most] w fun e w' => ∃ c, e = .returned (.pointer (some ⟨c, 0, none⟩)) ∧ Sat w' (rdP c (newR n most) :: l) ∧ Kp w w' := by
  obtain ⟨i0, hi, hz0, hz1, hz2⟩ := info_parts Try.infoInt2
  have hmk1 := fun W => run_make_rowN (P := Try.prog) 31 3 i0 (.int .i64 0) Try.underlying31 hi hz0 .i64 .i64 n n (Nat.le_refl _) (by rw [hz2]; omega) (by omega) W
  rw [hz1] at hmk1
  go_enter Try.func6, Try.ntmps6
  go_upto_region 1 with (fail)
  go_cut [5] from 7 to 14 (fun v wx => ∃ c, v = .pointer (some ⟨c, 0, none⟩) ∧ Sat wx (rdP c ⟨n, most, 0, 0, 0, List.replicate n 0, List.replicate n 0, [], false⟩ :: l) ∧ Kp w wx)
  case first =>
    have a1 := (hs.alloc (.cells (madeCells #[.int .i64 0] (n * 1)) 3)).tMade (f := fI) 0 rfl (by omega) rfl (by unfold maxLen; omega)
    have a2 := (a1.alloc (.cells (madeCells #[.int .i64 0] (n * 1)) 3)).tMade (f := fI) 0 rfl (by omega) rfl (by unfold maxLen; omega)
    have kA := ((((Kp.refl w).alloc (.cells (madeCells #[.int .i64 0] (n * 1)) 3)).alloc (.cells (madeCells #[.int .i64 0] (n * 1)) 3)))
    go_region
    · have a3 := ((a2.swap.tNil fI 3 1).push 2).alloc (.cells (rdC ⟨n, most, 0, 0, 0, List.replicate n 0, List.replicate n 0, [], false⟩ (.slice (some ⟨w.heap.size, 0, none⟩) n n) (.slice (some ⟨w.heap.size + 1, 0, none⟩) n n) (.slice none 0 0)) 33)
      simp only [World.size_alloc, Nat.mul_one] at a3 kA
      go_wp2_with fail
      go_meet
      case rel => exact ⟨_, rfl, rdP_I (R := ⟨n, most, 0, 0, 0, List.replicate n 0, List.replicate n 0, [], false⟩) a3.drew, (kA.alloc _).drew⟩
    · have a3 := ((a2.tNil fI 3 1).push 2).alloc (.cells (rdC ⟨n, most, 0, 0, 0, List.replicate n 0, List.replicate n 0, [], false⟩ (.slice (some ⟨w.heap.size + 1, 0, none⟩) n n) (.slice (some ⟨w.heap.size, 0, none⟩) n n) (.slice none 0 0)) 33)
      simp only [World.size_alloc, Nat.mul_one] at a3 kA
      go_wp2_with fail
      go_meet
      case rel => exact ⟨_, rfl, rdP_I (R := ⟨n, most, 0, 0, 0, List.replicate n 0, List.replicate n 0, [], false⟩) a3.drew, (kA.alloc _).drew⟩
  case rest =>
    obtain ⟨c, rfl, h2, k2⟩ := hcut
    go_wp2_with fail
    go_loopw [6] (fun i wr => ∃ (k : Nat) (rs : List Int), k ≤ n ∧ i = .int .i64 k ∧ Hid (rs.length = n) ∧ Hid (rs = List.replicate k (-1) ++ List.replicate (n - k) 0) ∧ Sat wr (rdP c ⟨n, most, 0, 0, 0, List.replicate n 0, rs, [], false⟩ :: l) ∧ Kp w wr) (fun i _ => n - (intOf i).toNat)
    case atStart => exact ⟨0, List.replicate n 0, by omega, rfl, by simp [Hid], by simp [Hid], h2, k2⟩
    case round =>
      clear h2 k2
      obtain ⟨k, rs, hk, rfl, hrl, hrs, h2, k2⟩ := hrel
      by_cases hlt : k < n
      case neg =>
        obtain rfl : k = n := by omega
        have hrs2 := hrs.out
        rw [Nat.sub_self, List.replicate_zero, List.append_nil] at hrs2
        rw [hrs2] at h2
        clear hrs2 hrs hrl
        go_wp2_with fail
        go_ret
        exact ⟨c, rfl, h2, k2⟩
      obtain ⟨vp, vr, vl, hv⟩ := rdP_E h2
      have hkr : k < rs.length := by rw [hrl.out]; exact hlt
      rcases (hv.pull 2).tForm with ⟨rfl, hp⟩ | ⟨g, off, cap, rfl⟩
      · have hp2 : rs = [] := hp
        rw [hp2] at hkr; simp at hkr
      have c6 := hv.cell 6
      simp [rdC] at c6
      obtain ⟨y, hy⟩ : ∃ y, rs[k]? = some y := ⟨rs[k], by simp⟩
      have y0 := (hv.pull 2).tCellI k y hy
      have z0 := (hv.pull 2).rowFree (off + k)
      have h3 := (hv.pull 2).tSetI' k (-1)
      have hrs3 : Hid (rs.set k (-1) = List.replicate (k + 1) (-1) ++ List.replicate (n - (k + 1)) 0) := by
        show _ = _
        rw [hrs.out]; exact set_repl n k hlt
      have hrl3 : Hid ((rs.set k (-1)).length = n) := by show _ = _; rw [List.length_set]; exact hrl.out
      have i0 : (0 : Int) ≤ (k : Int) := by omega
      have i1 : (k : Int) < (n : Int) := by omega
      have i2 : (k : Int) < (rs.length : Int) := by omega
      clear hy hkr
      go_wp2_with fail
      go_roundw
      case rel => exact ⟨k + 1, rs.set k (-1), by omega, by go_num, hrl3, hrs3, rdP_I (R := ⟨n, most, 0, 0, 0, List.replicate n 0, rs.set k (-1), [], false⟩) (h3.push 2), k2.setCell _ _⟩
      case measure => simp [intOf]; omega

end Go.Proofs.Ytkcgbenhnhbhhab

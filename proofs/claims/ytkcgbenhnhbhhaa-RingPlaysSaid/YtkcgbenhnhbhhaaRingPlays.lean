import Derived.Test.YtkcgbenhnhbhhaaRing4
import Derived.Test.YtkcgbenhnhbhhaaLaw
namespace Go.Proofs.Ytkcgbenhnhbhhaa
open Go Go.RowKit
set_option linter.unusedSimpArgs false
set_option linter.unusedVariables false

theorem drop_cons {α : Type} {y : α} {ys xs : List α} {n : Nat} (h : y :: ys = xs.drop n) : xs[n]? = some y ∧ ys = xs.drop (n + 1) := by
  have h1 : (xs.drop n)[0]? = some y := by rw [← h]; rfl
  have h2 : (xs.drop n).drop 1 = ys := by rw [← h]; rfl
  rw [List.getElem?_drop] at h1
  rw [List.drop_drop] at h2
  exact ⟨by simpa using h1, h2.symm⟩
theorem drop_snoc {α : Type} {ys xs : List α} {n : Nat} {x : α} (h : ys = xs.drop n) (hn : n ≤ xs.length) : ys ++ [x] = (xs ++ [x]).drop n := by
  rw [List.drop_append_of_le_length hn, h]

set_option maxRecDepth 100000 in
set_option maxHeartbeats 2000000 in
theorem ringPlays_walk (size : Int) (ao : Option Addr) (n cap : Nat) (zs : List Int) (W : World) (hz : 0 ≤ size) (hz' : size < 256) (ha : ArgRow W fI ao n cap zs) (hwf : ∀ x ∈ zs, (Lit.int .i64 x).wf = true) :
    LawCalls Try.prog 3 #[.int .u8 size, .slice ao n cap] W := by
  have H0 := Sat.start W
  obtain ⟨hlen, hle, hsm, hcells⟩ := ha
  unfold maxLen at hsm
  by_cases hbig : 60 < n
  · go_enter Try.func3, Try.ntmps3
    go_wp2_with fail
    refine (ring_awake H0).mono ?_
    rintro e w1 ⟨rfl, h1, k1⟩
    go_wp2_with fail
    go_ret
    exact ⟨rfl, h1.below k1⟩
  have hsmall : n ≤ 60 := by omega
  clear hbig
  go_enter Try.func3, Try.ntmps3
  go_wp2_with fail
  refine (ring_awake H0).mono ?_
  rintro e w1 ⟨rfl, h1, k1⟩
  go_wp2_with fail
  have hb : 0 ≤ size % 11 ∧ size % 11 ≤ 10 := by omega
  generalize size % 11 = m at hb ⊢
  obtain ⟨c, rfl⟩ := Int.eq_ofNat_of_zero_le (show 0 ≤ m by omega)
  obtain ⟨b1, b2⟩ := hb
  refine (ringI_new c w1 _ h1 (by omega) (by omega)).mono ?_
  rintro e w2 ⟨r, rfl, h2, k2⟩
  have k12 := k1.trans k2
  go_wp2_with fail
  have h3 := ringD_I (most := c) (taken := 0) (closed := false) ((h2.tNil fI 3 1).alloc (.cells #[.int .i64 c, .int .i64 (0 : Nat), .slice none 0 0, .bool false] 28))
  have k3 := k12.alloc (.cells #[.int .i64 c, .int .i64 (0 : Nat), .slice none 0 0, .bool false] 28)
  generalize hq : w2.heap.size = q at h3 ⊢
  clear hq
  go_loopw [9] (fun i wr => ∃ (k taken : Nat) (xs ys : List Int) (cl : Bool), k ≤ n ∧ i = .int .i64 k ∧ Hid (ys = xs.drop taken) ∧ ys.length + taken ≤ xs.length ∧ xs.length ≤ ys.length + taken ∧ xs.length ≤ k ∧ ys.length ≤ c ∧ Sat wr (ringI r c ys cl :: ringD q c taken xs cl :: [oldH W]) ∧ Kp W wr) (fun i _ => n - (intOf i).toNat)
  case atStart => exact ⟨0, 0, [], [], false, by omega, rfl, rfl, by simp, by simp, by simp, by simp, h3.swap, k3⟩
  case round =>
    obtain ⟨k, taken, xs, ys, cl, hk, rfl, hys, hl1, hl2, hl3, hl4, hs, hkp⟩ := hrel
    by_cases hlt : k < n
    case neg =>
      obtain rfl : k = n := by omega
      go_wp2_with fail
      go_ret
      exact ⟨rfl, (hs.pull 2).below hkp⟩
    obtain ⟨b, off, rfl, hcell⟩ := hcells (by omega)
    obtain ⟨x, hx⟩ : ∃ x, zs[k]? = some x := ⟨zs[k]'(by omega), by simp⟩
    have hcx := hcell k (.int .i64 x) (by rw [get_fI, hx]; rfl)
    have hcw := (hs.pull 2).oldCell hcx
    have i0 : (0 : Int) ≤ (k : Int) := by omega
    have i1 : (k : Int) < (n : Int) := by omega
    clear hcells hcell hx
    by_cases hx9 : x = -9
    · subst hx9
      go_wp2_with fail
      refine (ringI_close hs).mono ?_
      rintro e w5 ⟨rfl, h5, k5⟩
      obtain ⟨v, h6⟩ := ringD_E h5.swap
      have c3 := h6.cell 3
      have f3 := h6.free 3
      simp only [List.getElem?_toArray, List.getElem?_cons_succ, List.getElem?_cons_zero] at c3
      have h7 := (ringD_I (h6.set 3 (.bool true))).swap
      have k7 := (hkp.trans k5).setCell ⟨q, 3, none⟩ (.bool true)
      clear h6
      go_wp2_with fail
      generalize w5.setCell ⟨q, 3, none⟩ (.bool true) = wz at h7 k7 ⊢
      clear c3 f3
      have hne : (((ys).length : Int) != ((xs).length : Int) - ((taken : Nat) : Int)) = false := by rw [bne_eq_false_iff_eq]; (try simp only [List.length_append, List.length_cons, List.length_nil]); push_cast; omega
      have hwr : IntKind.i64.wrap (((xs).length : Int) - ((taken : Nat) : Int)) = ((xs).length : Int) - ((taken : Nat) : Int) := IntWalk.i64_in _ (by (try simp only [List.length_append, List.length_cons, List.length_nil]); push_cast; omega)
      (try simp only [List.length_append, List.length_cons, List.length_nil] at hne hwr)
      push_cast at hne hwr
      have hcl : (true != true) = false := by simp
      obtain ⟨v, h8⟩ := ringD_E h7.swap
      have c1 := h8.cell 1
      have c2 := h8.cell 2
      have c3 := h8.cell 3
      simp only [List.getElem?_toArray, List.getElem?_cons_succ, List.getElem?_cons_zero] at c1 c2 c3
      obtain ⟨g8, cap8, rfl⟩ := (h8.pull 1).tLen
      clear h8
      go_quiet ((first | (go_at_call 22; exact quiet_left (ringI_len (h7.drewN _))) | (go_at_call 22; exact quiet_add_left (ringI_len (h7.drewN _))) | (go_at_call 23; exact quiet_left (ringI_closed (h7.drewN _))) | (go_at_call 23; exact quiet_add_left (ringI_closed (h7.drewN _)))))
      go_wp2_with fail
      go_roundw
      case rel => exact ⟨k + 1, taken, xs, ys, true, by omega, by go_num, hys, by (try simp only [List.length_append, List.length_cons, List.length_nil]); omega, by (try simp only [List.length_append, List.length_cons, List.length_nil]); omega, by (try simp only [List.length_append, List.length_cons, List.length_nil]); omega, by (try simp only [List.length_append, List.length_cons, List.length_nil]); omega, h7.drewN _, k7.drewN _⟩
      case measure => simp [intOf]; omega
    have hd9 : (x == -9) = false := by simpa using hx9
    clear hx9
    by_cases hneg : x < 0
    · cases ys with
      | nil =>
        simp only [List.length_nil] at hl1 hl2 hl4
        go_wp2_with fail
        refine (ringI_take_none hs).mono ?_
        rintro e w5 ⟨rfl, rfl⟩
        go_wp2_with fail
        refine (ringD_take_none hs.swap (by omega) (by omega)).mono ?_
        rintro e w6 ⟨rfl, h6, k6⟩
        have h7 := h6.swap
        have k7 := hkp.trans k6
        go_wp2_with fail
        have hne : (((([] : List Int)).length : Int) != ((xs).length : Int) - ((taken : Nat) : Int)) = false := by rw [bne_eq_false_iff_eq]; (try simp only [List.length_append, List.length_cons, List.length_nil]); push_cast; omega
        have hwr : IntKind.i64.wrap (((xs).length : Int) - ((taken : Nat) : Int)) = ((xs).length : Int) - ((taken : Nat) : Int) := IntWalk.i64_in _ (by (try simp only [List.length_append, List.length_cons, List.length_nil]); push_cast; omega)
        (try simp only [List.length_append, List.length_cons, List.length_nil] at hne hwr)
        push_cast at hne hwr
        have hcl : (cl != cl) = false := by simp
        obtain ⟨v, h8⟩ := ringD_E h7.swap
        have c1 := h8.cell 1
        have c2 := h8.cell 2
        have c3 := h8.cell 3
        simp only [List.getElem?_toArray, List.getElem?_cons_succ, List.getElem?_cons_zero] at c1 c2 c3
        obtain ⟨g8, cap8, rfl⟩ := (h8.pull 1).tLen
        clear h8
        go_quiet ((first | (go_at_call 22; exact quiet_left (ringI_len (h7.drewN _))) | (go_at_call 22; exact quiet_add_left (ringI_len (h7.drewN _))) | (go_at_call 23; exact quiet_left (ringI_closed (h7.drewN _))) | (go_at_call 23; exact quiet_add_left (ringI_closed (h7.drewN _)))))
        go_wp2_with fail
        go_roundw
        case rel => exact ⟨k + 1, taken, xs, ([] : List Int), cl, by omega, by go_num, hys, by (try simp only [List.length_append, List.length_cons, List.length_nil]); omega, by (try simp only [List.length_append, List.length_cons, List.length_nil]); omega, by (try simp only [List.length_append, List.length_cons, List.length_nil]); omega, by (try simp only [List.length_append, List.length_cons, List.length_nil]); omega, h7.drewN _, k7.drewN _⟩
        case measure => simp [intOf]; omega
      | cons y ys =>
        simp only [List.length_cons] at hl1 hl2 hl4
        obtain ⟨hx0, hys'⟩ := drop_cons hys.out
        go_wp2_with fail
        refine (ringI_take hs (by omega)).mono ?_
        rintro e w5 ⟨rfl, h5, k5⟩
        go_wp2_with fail
        refine (ringD_take h5.swap (by omega) hx0 (by omega)).mono ?_
        rintro e w6 ⟨rfl, h6, k6⟩
        have h7 := h6.swap
        have k7 := hkp.trans (k5.trans k6)
        clear hx0
        replace hys' := Lib.hid hys'
        go_wp2_with fail
        have hne : (((ys).length : Int) != ((xs).length : Int) - ((taken + 1 : Nat) : Int)) = false := by rw [bne_eq_false_iff_eq]; (try simp only [List.length_append, List.length_cons, List.length_nil]); push_cast; omega
        have hwr : IntKind.i64.wrap (((xs).length : Int) - ((taken + 1 : Nat) : Int)) = ((xs).length : Int) - ((taken + 1 : Nat) : Int) := IntWalk.i64_in _ (by (try simp only [List.length_append, List.length_cons, List.length_nil]); push_cast; omega)
        (try simp only [List.length_append, List.length_cons, List.length_nil] at hne hwr)
        push_cast at hne hwr
        have hcl : (cl != cl) = false := by simp
        obtain ⟨v, h8⟩ := ringD_E h7.swap
        have c1 := h8.cell 1
        have c2 := h8.cell 2
        have c3 := h8.cell 3
        simp only [List.getElem?_toArray, List.getElem?_cons_succ, List.getElem?_cons_zero] at c1 c2 c3
        obtain ⟨g8, cap8, rfl⟩ := (h8.pull 1).tLen
        clear h8
        go_quiet ((first | (go_at_call 22; exact quiet_left (ringI_len (h7.drewN _))) | (go_at_call 22; exact quiet_add_left (ringI_len (h7.drewN _))) | (go_at_call 23; exact quiet_left (ringI_closed (h7.drewN _))) | (go_at_call 23; exact quiet_add_left (ringI_closed (h7.drewN _)))))
        go_wp2_with fail
        go_roundw
        case rel => exact ⟨k + 1, taken + 1, xs, ys, cl, by omega, by go_num, hys', by (try simp only [List.length_append, List.length_cons, List.length_nil]); omega, by (try simp only [List.length_append, List.length_cons, List.length_nil]); omega, by (try simp only [List.length_append, List.length_cons, List.length_nil]); omega, by (try simp only [List.length_append, List.length_cons, List.length_nil]); omega, h7.drewN _, k7.drewN _⟩
        case measure => simp [intOf]; omega
    have hpos : 0 ≤ x := by omega
    clear hneg
    cases cl with
    | true =>
      go_wp2_with fail
      go_region_held3 (fun w' => w'.cell? ⟨b, off + k, none⟩ = some (.int .i64 x)) (first | exact (hB.pull 2).oldCell hcx | exact (hA.pull 2).oldCell hcx | go_keep)
        (first | (go_at_call 20; refine (ringI_put_closed (hs.drewN 1)).mono ?_; rintro e wA ⟨rfl, rfl⟩) | (go_at_call 21; refine (ringD_put_closed (hs.drewN 1).swap).mono ?_; rintro e wB ⟨rfl, rfl⟩))
      
      have h7 := hs.drewN 1
      have k7 := hkp.drewN 1
      generalize wr.drewN 1 = wz at h7 k7 ⊢
      go_wp2_with fail
      have hne : (((ys).length : Int) != ((xs).length : Int) - ((taken : Nat) : Int)) = false := by rw [bne_eq_false_iff_eq]; (try simp only [List.length_append, List.length_cons, List.length_nil]); push_cast; omega
      have hwr : IntKind.i64.wrap (((xs).length : Int) - ((taken : Nat) : Int)) = ((xs).length : Int) - ((taken : Nat) : Int) := IntWalk.i64_in _ (by (try simp only [List.length_append, List.length_cons, List.length_nil]); push_cast; omega)
      (try simp only [List.length_append, List.length_cons, List.length_nil] at hne hwr)
      push_cast at hne hwr
      have hcl : (true != true) = false := by simp
      obtain ⟨v, h8⟩ := ringD_E h7.swap
      have c1 := h8.cell 1
      have c2 := h8.cell 2
      have c3 := h8.cell 3
      simp only [List.getElem?_toArray, List.getElem?_cons_succ, List.getElem?_cons_zero] at c1 c2 c3
      obtain ⟨g8, cap8, rfl⟩ := (h8.pull 1).tLen
      clear h8
      go_quiet ((first | (go_at_call 22; exact quiet_left (ringI_len (h7.drewN _))) | (go_at_call 22; exact quiet_add_left (ringI_len (h7.drewN _))) | (go_at_call 23; exact quiet_left (ringI_closed (h7.drewN _))) | (go_at_call 23; exact quiet_add_left (ringI_closed (h7.drewN _)))))
      go_wp2_with fail
      go_roundw
      case rel => exact ⟨k + 1, taken, xs, ys, true, by omega, by go_num, hys, by (try simp only [List.length_append, List.length_cons, List.length_nil]); omega, by (try simp only [List.length_append, List.length_cons, List.length_nil]); omega, by (try simp only [List.length_append, List.length_cons, List.length_nil]); omega, by (try simp only [List.length_append, List.length_cons, List.length_nil]); omega, h7.drewN _, k7.drewN _⟩
      case measure => simp [intOf]; omega
    | false =>
      by_cases hroom : ys.length < c
      · go_wp2_with fail
        go_region_held3 (fun w' => w'.cell? ⟨b, off + k, none⟩ = some (.int .i64 x)) (first | exact (hB.pull 2).oldCell hcx | exact (hA.pull 2).oldCell hcx | go_keep)
          (first | (go_at_call 20; refine (ringI_put (hs.drewN 1) (by omega) (by omega)).mono ?_; rintro e wA ⟨rfl, hA, kA⟩) | (go_at_call 21; refine (ringD_put hA.swap (by omega) (by omega) (by omega) (by omega)).mono ?_; rintro e wB ⟨rfl, hB, kB⟩))
        
        have h7 := hB.swap
        have k7 := (hkp.drewN 1).trans (kA.trans kB)
        have hys' := Lib.hid (drop_snoc (x := x) hys.out (by omega))
        go_wp2_with fail
        have hne : (((ys ++ [x]).length : Int) != ((xs ++ [x]).length : Int) - ((taken : Nat) : Int)) = false := by rw [bne_eq_false_iff_eq]; (try simp only [List.length_append, List.length_cons, List.length_nil]); push_cast; omega
        have hwr : IntKind.i64.wrap (((xs ++ [x]).length : Int) - ((taken : Nat) : Int)) = ((xs ++ [x]).length : Int) - ((taken : Nat) : Int) := IntWalk.i64_in _ (by (try simp only [List.length_append, List.length_cons, List.length_nil]); push_cast; omega)
        (try simp only [List.length_append, List.length_cons, List.length_nil] at hne hwr)
        push_cast at hne hwr
        have hcl : (false != false) = false := by simp
        obtain ⟨v, h8⟩ := ringD_E h7.swap
        have c1 := h8.cell 1
        have c2 := h8.cell 2
        have c3 := h8.cell 3
        simp only [List.getElem?_toArray, List.getElem?_cons_succ, List.getElem?_cons_zero] at c1 c2 c3
        obtain ⟨g8, cap8, rfl⟩ := (h8.pull 1).tLen
        clear h8
        go_quiet ((first | (go_at_call 22; exact quiet_left (ringI_len (h7.drewN _))) | (go_at_call 22; exact quiet_add_left (ringI_len (h7.drewN _))) | (go_at_call 23; exact quiet_left (ringI_closed (h7.drewN _))) | (go_at_call 23; exact quiet_add_left (ringI_closed (h7.drewN _)))))
        go_wp2_with fail
        go_roundw
        case rel => exact ⟨k + 1, taken, xs ++ [x], ys ++ [x], false, by omega, by go_num, hys', by (try simp only [List.length_append, List.length_cons, List.length_nil]); omega, by (try simp only [List.length_append, List.length_cons, List.length_nil]); omega, by (try simp only [List.length_append, List.length_cons, List.length_nil]); omega, by (try simp only [List.length_append, List.length_cons, List.length_nil]); omega, h7.drewN _, k7.drewN _⟩
        case measure => simp [intOf]; omega
      · go_wp2_with fail
        go_region_held3 (fun w' => w'.cell? ⟨b, off + k, none⟩ = some (.int .i64 x)) (first | exact (hB.pull 2).oldCell hcx | exact (hA.pull 2).oldCell hcx | go_keep)
          (first | (go_at_call 20; refine (ringI_put_full (hs.drewN 1) (by omega)).mono ?_; rintro e wA ⟨rfl, hA, kA⟩) | (go_at_call 21; refine (ringD_put_full hA.swap (by omega) (by omega) (by omega)).mono ?_; rintro e wB ⟨rfl, hB, kB⟩))
        
        have h7 := hB.swap
        have k7 := (hkp.drewN 1).trans (kA.trans kB)
        go_wp2_with fail
        have hne : (((ys).length : Int) != ((xs).length : Int) - ((taken : Nat) : Int)) = false := by rw [bne_eq_false_iff_eq]; (try simp only [List.length_append, List.length_cons, List.length_nil]); push_cast; omega
        have hwr : IntKind.i64.wrap (((xs).length : Int) - ((taken : Nat) : Int)) = ((xs).length : Int) - ((taken : Nat) : Int) := IntWalk.i64_in _ (by (try simp only [List.length_append, List.length_cons, List.length_nil]); push_cast; omega)
        (try simp only [List.length_append, List.length_cons, List.length_nil] at hne hwr)
        push_cast at hne hwr
        have hcl : (false != false) = false := by simp
        obtain ⟨v, h8⟩ := ringD_E h7.swap
        have c1 := h8.cell 1
        have c2 := h8.cell 2
        have c3 := h8.cell 3
        simp only [List.getElem?_toArray, List.getElem?_cons_succ, List.getElem?_cons_zero] at c1 c2 c3
        obtain ⟨g8, cap8, rfl⟩ := (h8.pull 1).tLen
        clear h8
        go_quiet ((first | (go_at_call 22; exact quiet_left (ringI_len (h7.drewN _))) | (go_at_call 22; exact quiet_add_left (ringI_len (h7.drewN _))) | (go_at_call 23; exact quiet_left (ringI_closed (h7.drewN _))) | (go_at_call 23; exact quiet_add_left (ringI_closed (h7.drewN _)))))
        go_wp2_with fail
        go_roundw
        case rel => exact ⟨k + 1, taken, xs, ys, false, by omega, by go_num, hys, by (try simp only [List.length_append, List.length_cons, List.length_nil]); omega, by (try simp only [List.length_append, List.length_cons, List.length_nil]); omega, by (try simp only [List.length_append, List.length_cons, List.length_nil]); omega, by (try simp only [List.length_append, List.length_cons, List.length_nil]); omega, h7.drewN _, k7.drewN _⟩
        case measure => simp [intOf]; omega

end Go.Proofs.Ytkcgbenhnhbhhaa

/- The four laws of package tick answer true at every argument (64-bit integers); the world below is left as it was. -/
import Derived.Test.YtbanppikjbfkmaaXTickWalks
import Derived.Below
namespace Go.Proofs.Ytbanppikjbfkmaa.X
open Go.RowKit Go.Proofs.Ytbanppikjbfkmaa.XTick

theorem clamp_is (a c : Int) (h : cl a = c) (w : World) : Calls Try.prog 17 #[.int .i64 a] w fun e w' => e = .returned (.int .i64 c) ∧ w = w' := by
  rw [← h]; exact clamp_any a w
theorem refclamp_is (a c : Int) (h : cl a = c) (w : World) : Calls Try.prog 15 #[.int .i64 a] w fun e w' => e = .returned (.int .i64 c) ∧ w = w' := by
  rw [← h]; exact refclamp_any a w

theorem tickCounts_true (a b : Int) (w : World) : Calls Try.prog 5 #[.int .i64 a, .int .i64 b] w fun e w' => e = .returned (.bool true) ∧ w = w' := by
  have A := cl_bd a
  have B := cl_bd b
  go_enter Try.func5, Try.ntmps5
  go_wp2_with (first
    | (with_reducible refine (refclamp_any a _).mono ?_; rintro e w' ⟨rfl, rfl⟩)
    | (with_reducible refine (refclamp_any b _).mono ?_; rintro e w' ⟨rfl, rfl⟩)
    | (with_reducible refine (refclamp_any (cl a + cl b) _).mono ?_; rintro e w' ⟨rfl, rfl⟩)
    | (go_at_call 16; refine (answers01_any _).mono ?_; rintro e w' ⟨rfl, rfl⟩)
    | (go_at_call 17; refine (clamp_any a _).mono ?_; rintro e w' ⟨rfl, rfl⟩)
    | (go_at_call 18; refine (add_any a b _).mono ?_; rintro e w' ⟨rfl, rfl⟩)
    | (go_at_call 19; refine (mul_any a b _).mono ?_; rintro e w' ⟨rfl, rfl⟩)
    | (go_at_call 20; refine (refmul_any a b _).mono ?_; rintro e w' ⟨rfl, rfl⟩)
    | (go_at_call 21; refine (late_any a b _).mono ?_; rintro e w' ⟨rfl, rfl⟩))
  go_ret
  exact ⟨rfl, rfl⟩

theorem tickThree_true (a b c : Int) (w : World) : Calls Try.prog 8 #[.int .i64 a, .int .i64 b, .int .i64 c] w fun e w' => e = .returned (.bool true) ∧ w = w' := by
  obtain ⟨x, hx⟩ : ∃ x, cl (cl a + cl b) = x := ⟨_, rfl⟩
  obtain ⟨y, hy⟩ : ∃ y, cl (cl b + cl c) = y := ⟨_, rfl⟩
  obtain ⟨z, hz⟩ : ∃ z, cl (cl x + cl c) = z := ⟨_, rfl⟩
  obtain ⟨m, hm⟩ : ∃ m, cl (cl a * cl b) = m := ⟨_, rfl⟩
  have A := cl_bd a
  have B := cl_bd b
  have C := cl_bd c
  have hz2 : cl (cl a + cl y) = z := by
    have X := cl_bd (cl a + cl b)
    have Y := cl_bd (cl b + cl c)
    rw [← hz, ← hy, ← hx, cl_of X.1 X.2, cl_of Y.1 Y.2]
    exact (add_assoc' A.1 B.1 C.1).symm
  have hx2 : cl (cl b + cl a) = x := by rw [Int.add_comm]; exact hx
  have hm2 : cl (cl b * cl a) = m := by rw [Int.mul_comm]; exact hm
  have HX := Lib.hid hx
  have HX2 := Lib.hid hx2
  have HY := Lib.hid hy
  have HZ := Lib.hid hz
  have HZ2 := Lib.hid hz2
  have HM := Lib.hid hm
  have HM2 := Lib.hid hm2
  clear hx hx2 hy hz hz2 hm hm2 A B C
  go_enter Try.func8, Try.ntmps8
  go_wp2_with (first
    | (go_at_call 16; refine (answers01_any _).mono ?_; rintro e w' ⟨rfl, rfl⟩)
    | (with_reducible refine (add_is a b x HX.out _).mono ?_; rintro e w' ⟨rfl, rfl⟩)
    | (with_reducible refine (add_is x c z HZ.out _).mono ?_; rintro e w' ⟨rfl, rfl⟩)
    | (with_reducible refine (add_is b c y HY.out _).mono ?_; rintro e w' ⟨rfl, rfl⟩)
    | (with_reducible refine (add_is a y z HZ2.out _).mono ?_; rintro e w' ⟨rfl, rfl⟩)
    | (with_reducible refine (add_is b a x HX2.out _).mono ?_; rintro e w' ⟨rfl, rfl⟩)
    | (with_reducible refine (mul_is a b m HM.out _).mono ?_; rintro e w' ⟨rfl, rfl⟩)
    | (with_reducible refine (mul_is b a m HM2.out _).mono ?_; rintro e w' ⟨rfl, rfl⟩))
  go_ret
  exact ⟨rfl, rfl⟩

theorem pz_bd (a b c : Int) : 0 ≤ pz a b c ∧ pz a b c ≤ 1099511627776 := by
  have A := dbl_bd (cl_bd a) c.toNat
  have B := cl_bd b
  unfold pz; omega
theorem pz_succ (a b c : Int) (hc : 0 ≤ c) : pz a b (c + 1) = if cl b < pz a b c + pz a b c then cl b else pz a b c + pz a b c := by
  have A := dbl_bd (cl_bd a) c.toNat
  have B := cl_bd b
  have e : dbl (cl a) (c + 1).toNat = cl (dbl (cl a) c.toNat + dbl (cl a) c.toNat) := by
    rw [show (c + 1).toNat = c.toNat + 1 by omega]; rfl
  unfold pz
  rw [e]
  unfold cl at *
  omega
theorem pz_le (a b c : Int) (hc : 0 ≤ c) : pz a b c ≤ pz a b (c + 1) := by
  have A := pz_bd a b c
  have B : pz a b c ≤ cl b := by unfold pz; omega
  rw [pz_succ a b c hc]; omega

theorem tickPauses_true (a b c : Int) (w : World) : Calls Try.prog 7 #[.int .i64 a, .int .i64 b, .int .i64 c] w fun e w' => e = .returned (.bool true) ∧ w = w' := by
  obtain ⟨p, hp⟩ : ∃ p, pz a b c = p := ⟨_, rfl⟩
  have HP := Lib.hid hp
  by_cases h1 : c < 0
  · clear hp
    go_enter Try.func7, Try.ntmps7
    go_wp2_with (first
      | (go_at_call 16; refine (answers01_any _).mono ?_; rintro e w' ⟨rfl, rfl⟩)
      | (with_reducible refine (pause_is a b c p HP.out _).mono ?_; rintro e w' ⟨rfl, rfl⟩)
      | (go_at_call 23; refine (refpause_is a b c p HP.out _).mono ?_; rintro e w' ⟨rfl, rfl⟩))
    go_ret
    exact ⟨rfl, rfl⟩
  · by_cases h2 : 1000 < c
    · clear hp
      go_enter Try.func7, Try.ntmps7
      go_wp2_with (first
        | (go_at_call 16; refine (answers01_any _).mono ?_; rintro e w' ⟨rfl, rfl⟩)
        | (with_reducible refine (pause_is a b c p HP.out _).mono ?_; rintro e w' ⟨rfl, rfl⟩)
        | (go_at_call 23; refine (refpause_is a b c p HP.out _).mono ?_; rintro e w' ⟨rfl, rfl⟩))
      go_ret
      exact ⟨rfl, rfl⟩
    · obtain ⟨q, hq⟩ : ∃ q, pz a b (c + 1) = q := ⟨_, rfl⟩
      have HQ := Lib.hid hq
      obtain ⟨m, hm⟩ : ∃ m, cl b = m := ⟨_, rfl⟩
      have HM := Lib.hid hm
      have P := pz_bd a b c
      have hle := pz_le a b c (by omega)
      have hs := pz_succ a b c (by omega)
      rw [hp, hq] at hle
      rw [hp, hq, hm] at hs
      rw [hp] at P
      have c0 : 0 ≤ c := by omega
      have c1 : c ≤ 1000 := by omega
      clear hp hq hm h1 h2
      by_cases h3 : m < p + p
      · rw [if_pos h3] at hs
        obtain rfl : q = m := hs
        go_enter Try.func7, Try.ntmps7
        go_wp2_with (first
          | (go_at_call 16; refine (answers01_any _).mono ?_; rintro e w' ⟨rfl, rfl⟩)
          | (go_at_call 15; refine (refclamp_is b q HM.out _).mono ?_; rintro e w' ⟨rfl, rfl⟩)
          | (with_reducible refine (pause_is a b c p HP.out _).mono ?_; rintro e w' ⟨rfl, rfl⟩)
          | (with_reducible refine (pause_is a b (c + 1) q HQ.out _).mono ?_; rintro e w' ⟨rfl, rfl⟩)
          | (go_at_call 23; refine (refpause_is a b c p HP.out _).mono ?_; rintro e w' ⟨rfl, rfl⟩))
        go_ret
        exact ⟨rfl, rfl⟩
      · rw [if_neg h3] at hs
        have h3' : p + p ≤ m := by omega
        obtain rfl : q = p + p := hs
        go_enter Try.func7, Try.ntmps7
        go_wp2_with (first
          | (go_at_call 16; refine (answers01_any _).mono ?_; rintro e w' ⟨rfl, rfl⟩)
          | (go_at_call 15; refine (refclamp_is b m HM.out _).mono ?_; rintro e w' ⟨rfl, rfl⟩)
          | (with_reducible refine (pause_is a b c p HP.out _).mono ?_; rintro e w' ⟨rfl, rfl⟩)
          | (with_reducible refine (pause_is a b (c + 1) (p + p) HQ.out _).mono ?_; rintro e w' ⟨rfl, rfl⟩)
          | (go_at_call 23; refine (refpause_is a b c p HP.out _).mono ?_; rintro e w' ⟨rfl, rfl⟩))
        go_ret
        exact ⟨rfl, rfl⟩

theorem pz_mono {a b : Int} (h : a ≤ b) (c d : Int) : pz a c d ≤ pz b c d := by
  have := dbl_mono (cl_mono h) d.toNat
  unfold pz; omega

theorem tickOrders_true (a b c : Int) (w : World) : Calls Try.prog 6 #[.int .i64 a, .int .i64 b, .int .i64 c] w fun e w' => e = .returned (.bool true) ∧ Below w.heap.size w w' := by
  by_cases hab : b < a
  · go_enter Try.func6, Try.ntmps6
    go_wp2_with (go_at_call 16; refine (answers01_any _).mono ?_; rintro e w' ⟨rfl, rfl⟩)
    go_ret
    exact ⟨rfl, Below.refl _ _⟩
  · have hle : a ≤ b := by omega
    have hd : decide (b < a) = false := decide_eq_false hab
    clear hab
    obtain ⟨x0, hx0⟩ : ∃ x, cl (cl a + cl c) = x := ⟨_, rfl⟩
    obtain ⟨x1, hx1⟩ : ∃ x, cl (cl a * cl c) = x := ⟨_, rfl⟩
    obtain ⟨x2, hx2⟩ : ∃ x, cl a = x := ⟨_, rfl⟩
    obtain ⟨x3, hx3⟩ : ∃ x, pz a c 3 = x := ⟨_, rfl⟩
    obtain ⟨y0, hy0⟩ : ∃ x, cl (cl b + cl c) = x := ⟨_, rfl⟩
    obtain ⟨y1, hy1⟩ : ∃ x, cl (cl b * cl c) = x := ⟨_, rfl⟩
    obtain ⟨y3, hy3⟩ : ∃ x, pz b c 3 = x := ⟨_, rfl⟩
    have m := cl_mono hle
    have B0 : 0 ≤ x0 ∧ x0 ≤ 1099511627776 := by rw [← hx0]; exact cl_bd _
    have B1 : 0 ≤ x1 ∧ x1 ≤ 1099511627776 := by rw [← hx1]; exact cl_bd _
    have B2 : 0 ≤ x2 ∧ x2 ≤ 1099511627776 := by rw [← hx2]; exact cl_bd _
    have B3 : 0 ≤ x3 ∧ x3 ≤ 1099511627776 := by rw [← hx3]; exact pz_bd _ _ _
    have L0 : x0 ≤ y0 := by rw [← hx0, ← hy0]; exact cl_mono (by omega)
    have L1 : x1 ≤ y1 := by rw [← hx1, ← hy1]; exact mul_mono (cl_bd c).1 m
    have L3 : x3 ≤ y3 := by rw [← hx3, ← hy3]; exact pz_mono hle _ _
    have HX0 := Lib.hid hx0
    have HX1 := Lib.hid hx1
    have HX2 := Lib.hid hx2
    have HX3 := Lib.hid hx3
    have HY0 := Lib.hid hy0
    have HY1 := Lib.hid hy1
    have HY3 := Lib.hid hy3
    clear hx0 hx1 hx2 hx3 hy0 hy1 hy3
    go_enter Try.func6, Try.ntmps6
    go_wp2_with (first
      | (with_reducible refine (add_is a c x0 HX0.out _).mono ?_; rintro e w' ⟨rfl, rfl⟩)
      | (with_reducible refine (mul_is a c x1 HX1.out _).mono ?_; rintro e w' ⟨rfl, rfl⟩)
      | (with_reducible refine (clamp_is a x2 HX2.out _).mono ?_; rintro e w' ⟨rfl, rfl⟩)
      | (with_reducible refine (pause_is a c 3 x3 HX3.out _).mono ?_; rintro e w' ⟨rfl, rfl⟩))
    go_loop [8, 26] (fun _ s26 => ∃ k : Nat, k ≤ 4 ∧ s26 = .int .i64 k) (fun _ s26 => 4 - (intOf s26).toNat)
    case atStart => exact ⟨0, by omega, rfl⟩
    case round =>
      obtain ⟨k, hk, rfl⟩ := hrel
      by_cases k0 : k = 4
      · subst k0
        by_cases hl : cl c ≤ cl a
        all_goals
          go_wp2_with (first
            | (go_at_call 16; refine (answers01_any _).mono ?_; rintro e w' ⟨rfl, rfl⟩)
            | (with_reducible refine (add_is a c x0 HX0.out _).mono ?_; rintro e w' ⟨rfl, rfl⟩)
            | (with_reducible refine (mul_is a c x1 HX1.out _).mono ?_; rintro e w' ⟨rfl, rfl⟩)
            | (with_reducible refine (pause_is a c 3 x3 HX3.out _).mono ?_; rintro e w' ⟨rfl, rfl⟩)
            | (with_reducible refine (add_is b c y0 HY0.out _).mono ?_; rintro e w' ⟨rfl, rfl⟩)
            | (with_reducible refine (mul_is b c y1 HY1.out _).mono ?_; rintro e w' ⟨rfl, rfl⟩)
            | (with_reducible refine (pause_is b c 3 y3 HY3.out _).mono ?_; rintro e w' ⟨rfl, rfl⟩)
            | (with_reducible refine (late_any a c _).mono ?_; rintro e w' ⟨rfl, rfl⟩)
            | (with_reducible refine (late_bool b c true (decide_eq_true (by omega)) _).mono ?_; rintro e w' ⟨rfl, rfl⟩))
          go_ret
          exact ⟨rfl, (Below.refl _ _).alloc (Nat.le_refl _) _⟩
      · obtain rfl | rfl | rfl | rfl : k = 0 ∨ k = 1 ∨ k = 2 ∨ k = 3 := by omega
        all_goals
          go_wp2
          go_round
          case rel => first | exact ⟨1, by omega, rfl⟩ | exact ⟨2, by omega, rfl⟩ | exact ⟨3, by omega, rfl⟩ | exact ⟨4, by omega, rfl⟩
          case measure => simp [intOf]
end Go.Proofs.Ytbanppikjbfkmaa.X

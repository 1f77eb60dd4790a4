/- What the functions of package tick, of its reference and of its small witness answer, at every argument (64-bit integers); the world is left as it was. -/
import Derived.Test.YtbanppikjbfkmaaProg
import Derived.Test.YtbanppikjbfkmaaXTick
import Derived.WalkKit
import Derived.KernelRfl
import Derived.Outline
import Derived.Lib.Hide
import Derived.WalkSpells
namespace Go.Proofs.Ytbanppikjbfkmaa.X
open Go.RowKit Go.Proofs.Ytbanppikjbfkmaa.XTick

theorem ret_int {k : IntKind} {a b : Int} (h : a = b) : Ending.returned (.int k a) = .returned (.int k b) := by rw [h]
theorem ret_bool {a b : Bool} (h : a = b) : Ending.returned (.bool a) = .returned (.bool b) := by rw [h]

theorem clamp_any (n : Int) (w : World) : Calls Try.prog 17 #[.int .i64 n] w fun e w' => e = .returned (.int .i64 (cl n)) ∧ w = w' := by
  go_enter Try.func17, Try.ntmps17
  go_wp2
  all_goals (go_ret; exact ⟨ret_int (by unfold cl; omega), rfl⟩)

theorem add_any (a b : Int) (w : World) : Calls Try.prog 18 #[.int .i64 a, .int .i64 b] w fun e w' => e = .returned (.int .i64 (cl (cl a + cl b))) ∧ w = w' := by
  have A := cl_bd a
  have B := cl_bd b
  go_enter Try.func18, Try.ntmps18
  go_wp2_with (go_at_call 17; refine (clamp_any _ _).mono ?_; rintro e w' ⟨rfl, rfl⟩)
  go_ret
  exact ⟨rfl, rfl⟩

theorem late_any (a b : Int) (w : World) : Calls Try.prog 21 #[.int .i64 a, .int .i64 b] w fun e w' => e = .returned (.bool (decide (cl b ≤ cl a))) ∧ w = w' := by
  go_enter Try.func21, Try.ntmps21
  go_wp2_with (go_at_call 17; refine (clamp_any _ _).mono ?_; rintro e w' ⟨rfl, rfl⟩)
  go_ret
  exact ⟨rfl, rfl⟩

theorem refclamp_any (n : Int) (w : World) : Calls Try.prog 15 #[.int .i64 n] w fun e w' => e = .returned (.int .i64 (cl n)) ∧ w = w' := by
  go_enter Try.func15, Try.ntmps15
  go_wp2
  all_goals (go_ret; exact ⟨ret_int (by unfold cl; omega), rfl⟩)

theorem mul_any (a b : Int) (w : World) : Calls Try.prog 19 #[.int .i64 a, .int .i64 b] w fun e w' => e = .returned (.int .i64 (cl (cl a * cl b))) ∧ w = w' := by
  have A := cl_bd a
  have B := cl_bd b
  have hm := mul_eq A B
  by_cases h : cl a > 0
  · rw [if_pos h, if_neg (by omega)] at hm
    have d0 : 0 ≤ (1099511627776 : Int) / cl a := Int.ediv_nonneg (by omega) (by omega)
    have d1 : (1099511627776 : Int) / cl a ≤ 1099511627776 := Int.ediv_le_self _ (by omega)
    have e : wrap64 ((1099511627776 : Int) / cl a) = (1099511627776 : Int) / cl a := by unfold wrap64; omega
    rw [e] at hm
    clear e
    by_cases h' : cl b > (1099511627776 : Int) / cl a
    · rw [if_pos h'] at hm
      have HM := Lib.hid (Option.some.inj hm)
      clear hm
      go_enter Try.func19, Try.ntmps19
      go_wp2_with (go_at_call 17; refine (clamp_any _ _).mono ?_; rintro e w' ⟨rfl, rfl⟩)
      go_ret
      exact ⟨ret_int HM.out, rfl⟩
    · rw [if_neg h'] at hm
      have HM := Lib.hid (Option.some.inj hm)
      clear hm
      go_enter Try.func19, Try.ntmps19
      go_wp2_with (go_at_call 17; refine (clamp_any _ _).mono ?_; rintro e w' ⟨rfl, rfl⟩)
      go_ret
      exact ⟨ret_int HM.out, rfl⟩
  · rw [if_neg h] at hm
    have HM := Lib.hid (Option.some.inj hm)
    clear hm
    go_enter Try.func19, Try.ntmps19
    go_wp2_with (go_at_call 17; refine (clamp_any _ _).mono ?_; rintro e w' ⟨rfl, rfl⟩)
    go_ret
    exact ⟨ret_int HM.out, rfl⟩

/-- A pause: doubled, up to a bound. -/
def pz (base most tries : Int) : Int := if cl most < dbl (cl base) tries.toNat then cl most else dbl (cl base) tries.toNat

theorem pause_any (base most tries : Int) (w : World) : Calls Try.prog 22 #[.int .i64 base, .int .i64 most, .int .i64 tries] w fun e w' =>
    e = .returned (.int .i64 (pz base most tries)) ∧ w = w' := by
  have hp := pause_eq (cl_bd base) tries
  have B := cl_bd most
  by_cases h1 : tries < 0
  · simp only [if_pos h1] at hp
    rw [if_neg (by omega), show wrap64 (2 ^ (Int.toNat 0)) = 1 from by simp [wrap64]] at hp
    have HP := Lib.hid hp
    clear hp
    go_enter Try.func22, Try.ntmps22
    go_wp2_with (first | (go_at_call 17; refine (clamp_any _ _).mono ?_; rintro e w' ⟨rfl, rfl⟩) | (go_at_call 19; refine (mul_any _ _ _).mono ?_; rintro e w' ⟨rfl, rfl⟩))
    all_goals (go_ret; refine ⟨ret_int ?_, rfl⟩; unfold pz; rw [← HP.out]; first | rw [if_pos (by assumption)] <;> rfl | rw [if_neg (by omega)] <;> rfl)
  · simp only [if_neg h1] at hp
    have h1' : 0 ≤ tries := by omega
    clear h1
    by_cases h2 : 62 < tries
    · rw [if_pos h2, show wrap64 (2 ^ (Int.toNat 62)) = 4611686018427387904 from by simp [wrap64]] at hp
      have HP := Lib.hid hp
      clear hp
      go_enter Try.func22, Try.ntmps22
      go_wp2_with (first | (go_at_call 17; refine (clamp_any _ _).mono ?_; rintro e w' ⟨rfl, rfl⟩) | (go_at_call 19; refine (mul_any _ _ _).mono ?_; rintro e w' ⟨rfl, rfl⟩))
      all_goals (go_ret; refine ⟨ret_int ?_, rfl⟩; unfold pz; rw [← HP.out]; first | rw [if_pos (by assumption)] <;> rfl | rw [if_neg (by omega)] <;> rfl)
    · rw [if_neg h2] at hp
      have HP := Lib.hid hp
      have h2' : tries ≤ 62 := by omega
      clear hp h2
      go_enter Try.func22, Try.ntmps22
      go_wp2_with (first | (go_at_call 17; refine (clamp_any _ _).mono ?_; rintro e w' ⟨rfl, rfl⟩) | (go_at_call 19; refine (mul_any _ _ _).mono ?_; rintro e w' ⟨rfl, rfl⟩))
      all_goals (go_ret; refine ⟨ret_int ?_, rfl⟩; unfold pz; rw [← HP.out]; first | rw [if_pos (by assumption)] <;> rfl | rw [if_neg (by omega)] <;> rfl)

theorem refmul_any (a b : Int) (w : World) : Calls Try.prog 20 #[.int .i64 a, .int .i64 b] w fun e w' => e = .returned (.int .i64 (cl (cl a * cl b))) ∧ w = w' := by
  have A := cl_bd a
  have B := cl_bd b
  obtain ⟨R, hR⟩ : ∃ R, cl (cl a * cl b) = R := ⟨_, rfl⟩
  rw [hR]
  have HR := Lib.hid hR
  clear hR
  go_enter Try.func20, Try.ntmps20
  go_wp2_with (go_at_call 15; refine (refclamp_any _ _).mono ?_; rintro e w' ⟨rfl, rfl⟩)
  go_loop [0, 1, 5] (fun s0 s1 s5 => ∃ x y out : Int, 0 ≤ x ∧ x ≤ 1099511627776 ∧ 0 ≤ y ∧ y ≤ 1099511627776 ∧ 0 ≤ out ∧ out ≤ 1099511627776 ∧ Hid (cl (out + x * y) = R) ∧ s0 = .int .i64 x ∧ s1 = .int .i64 y ∧ s5 = .int .i64 out) (fun _ s1 _ => (intOf s1).toNat)
  case atStart => exact ⟨_, _, 0, A.1, A.2, B.1, B.2, by omega, by omega, by rw [Int.zero_add]; exact HR, rfl, rfl, rfl⟩
  case round =>
    obtain ⟨x, y, out, x0, x1, y0, y1, o0, o1, HE, rfl, rfl, rfl⟩ := hrel
    have q1 := cl_bd (out + x)
    have q2 := cl_bd (x + x)
    have q3 : y / 2 * 2 + y % 2 = y := by omega
    have Q3 := Lib.hid q3
    clear q3
    by_cases hy : 0 < y
    · by_cases hp : y % 2 = 1
      · have hp' : (y % 2 == 1) = true := beq_iff_eq.2 hp
        have HS := Lib.hid (p := cl (cl (out + x) + cl (x + x) * (y / 2)) = R) (by
          rw [step_odd ⟨o0, o1⟩ ⟨x0, x1⟩ (by omega), ← HE.out]
          congr 3; have := Q3.out; omega)
        clear hp
        go_wp2_with (go_at_call 15; refine (refclamp_any _ _).mono ?_; rintro e w' ⟨rfl, rfl⟩)
        go_round
        case rel => exact ⟨_, _, _, q2.1, q2.2, by omega, by omega, q1.1, q1.2, HS, rfl, rfl, rfl⟩
        case measure => simp [intOf]; omega
      · have hp' : (y % 2 == 1) = false := beq_eq_false_iff_ne.2 hp
        have HS := Lib.hid (p := cl (out + cl (x + x) * (y / 2)) = R) (by
          rw [step_even ⟨o0, o1⟩ ⟨x0, x1⟩ (by omega), ← HE.out]
          congr 3; have := Q3.out; omega)
        clear hp
        go_wp2_with (go_at_call 15; refine (refclamp_any _ _).mono ?_; rintro e w' ⟨rfl, rfl⟩)
        go_round
        case rel => exact ⟨_, _, _, q2.1, q2.2, by omega, by omega, o0, o1, HS, rfl, rfl, rfl⟩
        case measure => simp [intOf]; omega
    · have hfin : out = R := by
        have hz : y = 0 := by omega
        have := HE.out
        rw [hz, Int.mul_zero, Int.add_zero, cl_of o0 o1] at this; exact this
      have HF := Lib.hid hfin
      clear hfin
      go_wp2
      go_ret
      exact ⟨ret_int HF.out, rfl⟩

theorem refpause_any (base most tries : Int) (w : World) : Calls Try.prog 23 #[.int .i64 base, .int .i64 most, .int .i64 tries] w fun e w' =>
    e = .returned (.int .i64 (pz base most tries)) ∧ w = w' := by
  have A := cl_bd base
  have B := cl_bd most
  go_enter Try.func23, Try.ntmps23
  go_wp2_with (go_at_call 15; refine (refclamp_any _ _).mono ?_; rintro e w' ⟨rfl, rfl⟩)
  go_loop [7, 9] (fun s7 s9 => ∃ i : Nat, i ≤ 100 ∧ i ≤ tries.toNat ∧ s7 = .int .i64 (dbl (cl base) i) ∧ s9 = .int .i64 i) (fun _ s9 => 100 - (intOf s9).toNat)
  case atStart => exact ⟨0, by omega, by omega, rfl, rfl⟩
  case round =>
    obtain ⟨i, i1, i2, rfl, rfl⟩ := hrel
    have D := dbl_bd A i
    by_cases h1 : (i : Int) < tries
    · by_cases h2 : i < 100
      · go_wp2_with (go_at_call 15; refine (refclamp_any _ _).mono ?_; rintro e w' ⟨rfl, rfl⟩)
        go_round
        case rel => exact ⟨i + 1, by omega, by omega, rfl, by go_num⟩
        case measure => simp [intOf]; omega
      · have hd := Lib.hid (p := pz base most tries = if cl most < dbl (cl base) i then cl most else dbl (cl base) i) (by
          unfold pz; rw [← dbl_min A tries.toNat 100 (by omega), show min tries.toNat 100 = i by omega])
        go_wp2
        all_goals (go_ret; refine ⟨ret_int ?_, rfl⟩; rw [hd.out]; first | rw [if_pos (by assumption)] | rw [if_neg (by omega)])
    · have hd := Lib.hid (p := pz base most tries = if cl most < dbl (cl base) i then cl most else dbl (cl base) i) (by
          unfold pz; rw [show tries.toNat = i by omega])
      go_wp2
      all_goals (go_ret; refine ⟨ret_int ?_, rfl⟩; rw [hd.out]; first | rw [if_pos (by assumption)] | rw [if_neg (by omega)])

theorem late_bool (a b : Int) (r : Bool) (h : decide (cl b ≤ cl a) = r) (w : World) : Calls Try.prog 21 #[.int .i64 a, .int .i64 b] w fun e w' => e = .returned (.bool r) ∧ w = w' := by
  rw [← h]; exact late_any a b w
theorem add_is (a b c : Int) (h : cl (cl a + cl b) = c) (w : World) : Calls Try.prog 18 #[.int .i64 a, .int .i64 b] w fun e w' => e = .returned (.int .i64 c) ∧ w = w' := by
  rw [← h]; exact add_any a b w
theorem mul_is (a b c : Int) (h : cl (cl a * cl b) = c) (w : World) : Calls Try.prog 19 #[.int .i64 a, .int .i64 b] w fun e w' => e = .returned (.int .i64 c) ∧ w = w' := by
  rw [← h]; exact mul_any a b w
theorem pause_is (a b c d : Int) (h : pz a b c = d) (w : World) : Calls Try.prog 22 #[.int .i64 a, .int .i64 b, .int .i64 c] w fun e w' => e = .returned (.int .i64 d) ∧ w = w' := by
  rw [← h]; exact pause_any a b c w

theorem refpause_is (a b c d : Int) (h : pz a b c = d) (w : World) : Calls Try.prog 23 #[.int .i64 a, .int .i64 b, .int .i64 c] w fun e w' => e = .returned (.int .i64 d) ∧ w = w' := by
  rw [← h]; exact refpause_any a b c w

theorem answers01_any (w : World) : Calls Try.prog 16 #[] w fun e w' => e = .returned (.bool true) ∧ w = w' := by
  go_enter Try.func16, Try.ntmps16
  go_wp2_with (first
    | (go_at_call 18; refine (add_is 1099511627776 1 1099511627776 (by decide) _).mono ?_; rintro e w' ⟨rfl, rfl⟩)
    | (go_at_call 19; refine (mul_is 6 7 42 (by decide) _).mono ?_; rintro e w' ⟨rfl, rfl⟩)
    | (go_at_call 22; refine (pause_is 3 100 4 48 (by decide) _).mono ?_; rintro e w' ⟨rfl, rfl⟩)
    | (with_reducible refine (late_bool 5 5 true ?_ _).mono ?_; (· decide); rintro e w' ⟨rfl, rfl⟩)
    | (with_reducible refine (late_bool 4 5 false ?_ _).mono ?_; (· decide); rintro e w' ⟨rfl, rfl⟩))
  go_ret
  exact ⟨rfl, rfl⟩
end Go.Proofs.Ytbanppikjbfkmaa.X

/- What the functions of package serial, of its reference and of its small witness answer, at every argument (64-bit integers); the world is left as it was. -/
import Derived.Test.YtbanppikjbfkmaaProg
import Derived.WalkKit
import Derived.KernelRfl
import Derived.Outline
import Derived.Lib.Hide
import Derived.WalkSpells
namespace Go.Proofs.Ytbanppikjbfkmaa.XS
open Go.RowKit

theorem ret_int {k : IntKind} {a b : Int} (h : a = b) : Ending.returned (.int k a) = .returned (.int k b) := by rw [h]
theorem ret_bool {a b : Bool} (h : a = b) : Ending.returned (.bool a) = .returned (.bool b) := by rw [h]

theorem u16w (n : Int) : IntKind.u16.wrap n = n % 65536 := by
  simp [IntKind.wrap, IntKind.bits, IntKind.signed]
theorem i16w (n : Int) : IntKind.i16.wrap n = (n + 32768) % 65536 - 32768 := by
  simp [IntKind.wrap, IntKind.bits, IntKind.signed]; split <;> omega
theorem tm16 (a : Int) : Int.tmod a 65536 = if 0 ≤ a then a % 65536 else -((-a) % 65536) := by
  split
  · rw [Int.tmod_eq_emod_of_nonneg (by assumption)]
  · rename_i h
    have := Int.neg_tmod (-a) 65536
    rw [Int.neg_neg] at this
    rw [this, Int.tmod_eq_emod_of_nonneg (by omega)]

/-- How far b is ahead of a, by the shorter way. -/
def nr (a b : Int) : Int := (b - a + 32768) % 65536 - 32768
/-- As a serial number. -/
def md (a : Int) : Int := a % 65536

theorem near_any (a b : Int) (w : World) : Calls Try.prog 9 #[.int .i64 a, .int .i64 b] w fun e w' => e = .returned (.int .i64 (nr a b)) ∧ w = w' := by
  go_enter Try.func9, Try.ntmps9
  go_wp2
  go_ret
  refine ⟨ret_int ?_, rfl⟩
  simp only [u16w, i16w, wrap64, nr]
  omega
theorem next_any (a : Int) (w : World) : Calls Try.prog 14 #[.int .i64 a] w fun e w' => e = .returned (.int .i64 (md (a + 1))) ∧ w = w' := by
  go_enter Try.func14, Try.ntmps14
  go_wp2
  go_ret
  refine ⟨ret_int ?_, rfl⟩
  simp only [u16w, wrap64, md]
  omega
theorem newer_any (a b : Int) (w : World) : Calls Try.prog 13 #[.int .i64 a, .int .i64 b] w fun e w' => e = .returned (.bool (decide (0 < nr a b))) ∧ w = w' := by
  go_enter Try.func13, Try.ntmps13
  go_wp2_with (go_at_call 9; refine (near_any _ _ _).mono ?_; rintro e w' ⟨rfl, rfl⟩)
  go_ret
  exact ⟨rfl, rfl⟩
theorem mod_any (a : Int) (w : World) (_h : -9223372036854775808 ≤ a ∧ a ≤ 9223372036854775807) : Calls Try.prog 12 #[.int .i64 a] w fun e w' => e = .returned (.int .i64 (md a)) ∧ w = w' := by
  go_enter Try.func12, Try.ntmps12
  go_wp2
  all_goals
    go_ret
    refine ⟨ret_int ?_, rfl⟩
    have := tm16 a
    simp only [wrap64, md] at *
    omega
theorem refnear_any (a b : Int) (w : World) (_a : 0 ≤ a ∧ a < 65536) (_b : 0 ≤ b ∧ b < 65536) : Calls Try.prog 11 #[.int .i64 a, .int .i64 b] w fun e w' => e = .returned (.int .i64 (nr a b)) ∧ w = w' := by
  go_enter Try.func11, Try.ntmps11
  go_wp2
  all_goals
    go_ret
    refine ⟨ret_int ?_, rfl⟩
    have := tm16 (b - a)
    simp only [wrap64, nr] at *
    omega

theorem near_is (a b c : Int) (h : nr a b = c) (w : World) : Calls Try.prog 9 #[.int .i64 a, .int .i64 b] w fun e w' => e = .returned (.int .i64 c) ∧ w = w' := by
  rw [← h]; exact near_any a b w
theorem next_is (a c : Int) (h : md (a + 1) = c) (w : World) : Calls Try.prog 14 #[.int .i64 a] w fun e w' => e = .returned (.int .i64 c) ∧ w = w' := by
  rw [← h]; exact next_any a w
theorem newer_is (a b : Int) (r : Bool) (h : decide (0 < nr a b) = r) (w : World) : Calls Try.prog 13 #[.int .i64 a, .int .i64 b] w fun e w' => e = .returned (.bool r) ∧ w = w' := by
  rw [← h]; exact newer_any a b w

theorem answers05_any (w : World) : Calls Try.prog 10 #[] w fun e w' => e = .returned (.bool true) ∧ w = w' := by
  go_enter Try.func10, Try.ntmps10
  go_wp2_with (first
    | (go_at_call 9; refine (near_is 65535 1 2 (by decide) _).mono ?_; rintro e w' ⟨rfl, rfl⟩)
    | (with_reducible refine (next_is 65535 0 ?_ _).mono ?_; (· decide); rintro e w' ⟨rfl, rfl⟩)
    | (with_reducible refine (next_is 4 5 ?_ _).mono ?_; (· decide); rintro e w' ⟨rfl, rfl⟩)
    | (with_reducible refine (newer_is 3 4 true ?_ _).mono ?_; (· decide); rintro e w' ⟨rfl, rfl⟩)
    | (with_reducible refine (newer_is 4 3 false ?_ _).mono ?_; (· decide); rintro e w' ⟨rfl, rfl⟩))
  go_ret
  exact ⟨rfl, rfl⟩
end Go.Proofs.Ytbanppikjbfkmaa.XS

/- What the functions of packages tick and serial that a link uses answer, at every argument (64-bit integers); the world is left as it was. -/
import Derived.Test.YtbbacdaenpildaaProg
import Derived.Test.YtbbacdaenpildaaXTick
import Derived.WalkKit
import Derived.KernelRfl
import Derived.Outline
import Derived.Lib.Hide
import Derived.WalkSpells
namespace Go.Proofs.Ytbbacdaenpildaa.X
open Go.RowKit Go.Proofs.Ytbbacdaenpildaa.XTick

theorem ret_int {k : IntKind} {a b : Int} (h : a = b) : Ending.returned (.int k a) = .returned (.int k b) := by rw [h]
theorem ret_bool {a b : Bool} (h : a = b) : Ending.returned (.bool a) = .returned (.bool b) := by rw [h]

theorem clamp_any (n : Int) (w : World) : Calls Try.prog 15 #[.int .i64 n] w fun e w' => e = .returned (.int .i64 (cl n)) ∧ w = w' := by
  go_enter Try.func15, Try.ntmps15
  go_wp2
  all_goals (go_ret; exact ⟨ret_int (by unfold cl; omega), rfl⟩)

theorem add_any (a b : Int) (w : World) : Calls Try.prog 17 #[.int .i64 a, .int .i64 b] w fun e w' => e = .returned (.int .i64 (cl (cl a + cl b))) ∧ w = w' := by
  have A := cl_bd a
  have B := cl_bd b
  go_enter Try.func17, Try.ntmps17
  go_wp2_with (go_at_call 15; refine (clamp_any _ _).mono ?_; rintro e w' ⟨rfl, rfl⟩)
  go_ret
  exact ⟨rfl, rfl⟩

theorem late_any (a b : Int) (w : World) : Calls Try.prog 21 #[.int .i64 a, .int .i64 b] w fun e w' => e = .returned (.bool (decide (cl b ≤ cl a))) ∧ w = w' := by
  go_enter Try.func21, Try.ntmps21
  go_wp2_with (go_at_call 15; refine (clamp_any _ _).mono ?_; rintro e w' ⟨rfl, rfl⟩)
  go_ret
  exact ⟨rfl, rfl⟩

theorem mul_any (a b : Int) (w : World) : Calls Try.prog 22 #[.int .i64 a, .int .i64 b] w fun e w' => e = .returned (.int .i64 (cl (cl a * cl b))) ∧ w = w' := by
  have A := cl_bd a
  have B := cl_bd b
  have hm := mul_eq A B
  by_cases h : cl a > 0
  · rw [if_pos h, if_neg (by omega)] at hm
    have d0 : 0 ≤ (1099511627776 : Int) / cl a := Int.ediv_nonneg (by omega) (by omega)
    have d1 : (1099511627776 : Int) / cl a ≤ 1099511627776 := Int.ediv_le_self _ (by omega)
    have e : wrap64 ((1099511627776 : Int) / cl a) = (1099511627776 : Int) / cl a := by unfold wrap64; omega
    rw [e] at hm
    clear e
    by_cases h' : cl b > (1099511627776 : Int) / cl a
    · rw [if_pos h'] at hm
      have HM := Lib.hid (Option.some.inj hm)
      clear hm
      go_enter Try.func22, Try.ntmps22
      go_wp2_with (go_at_call 15; refine (clamp_any _ _).mono ?_; rintro e w' ⟨rfl, rfl⟩)
      go_ret
      exact ⟨ret_int HM.out, rfl⟩
    · rw [if_neg h'] at hm
      have HM := Lib.hid (Option.some.inj hm)
      clear hm
      go_enter Try.func22, Try.ntmps22
      go_wp2_with (go_at_call 15; refine (clamp_any _ _).mono ?_; rintro e w' ⟨rfl, rfl⟩)
      go_ret
      exact ⟨ret_int HM.out, rfl⟩
  · rw [if_neg h] at hm
    have HM := Lib.hid (Option.some.inj hm)
    clear hm
    go_enter Try.func22, Try.ntmps22
    go_wp2_with (go_at_call 15; refine (clamp_any _ _).mono ?_; rintro e w' ⟨rfl, rfl⟩)
    go_ret
    exact ⟨ret_int HM.out, rfl⟩

/-- A pause: doubled, up to a bound. -/
def pz (base most tries : Int) : Int := if cl most < dbl (cl base) tries.toNat then cl most else dbl (cl base) tries.toNat

theorem pause_any (base most tries : Int) (w : World) : Calls Try.prog 18 #[.int .i64 base, .int .i64 most, .int .i64 tries] w fun e w' =>
    e = .returned (.int .i64 (pz base most tries)) ∧ w = w' := by
  have hp := pause_eq (cl_bd base) tries
  have B := cl_bd most
  by_cases h1 : tries < 0
  · simp only [if_pos h1] at hp
    rw [if_neg (by omega), show wrap64 (2 ^ (Int.toNat 0)) = 1 from by simp [wrap64]] at hp
    have HP := Lib.hid hp
    clear hp
    go_enter Try.func18, Try.ntmps18
    go_wp2_with (first | (go_at_call 15; refine (clamp_any _ _).mono ?_; rintro e w' ⟨rfl, rfl⟩) | (go_at_call 22; refine (mul_any _ _ _).mono ?_; rintro e w' ⟨rfl, rfl⟩))
    all_goals (go_ret; refine ⟨ret_int ?_, rfl⟩; unfold pz; rw [← HP.out]; first | rw [if_pos (by assumption)] <;> rfl | rw [if_neg (by omega)] <;> rfl)
  · simp only [if_neg h1] at hp
    have h1' : 0 ≤ tries := by omega
    clear h1
    by_cases h2 : 62 < tries
    · rw [if_pos h2, show wrap64 (2 ^ (Int.toNat 62)) = 4611686018427387904 from by simp [wrap64]] at hp
      have HP := Lib.hid hp
      clear hp
      go_enter Try.func18, Try.ntmps18
      go_wp2_with (first | (go_at_call 15; refine (clamp_any _ _).mono ?_; rintro e w' ⟨rfl, rfl⟩) | (go_at_call 22; refine (mul_any _ _ _).mono ?_; rintro e w' ⟨rfl, rfl⟩))
      all_goals (go_ret; refine ⟨ret_int ?_, rfl⟩; unfold pz; rw [← HP.out]; first | rw [if_pos (by assumption)] <;> rfl | rw [if_neg (by omega)] <;> rfl)
    · rw [if_neg h2] at hp
      have HP := Lib.hid hp
      have h2' : tries ≤ 62 := by omega
      clear hp h2
      go_enter Try.func18, Try.ntmps18
      go_wp2_with (first | (go_at_call 15; refine (clamp_any _ _).mono ?_; rintro e w' ⟨rfl, rfl⟩) | (go_at_call 22; refine (mul_any _ _ _).mono ?_; rintro e w' ⟨rfl, rfl⟩))
      all_goals (go_ret; refine ⟨ret_int ?_, rfl⟩; unfold pz; rw [← HP.out]; first | rw [if_pos (by assumption)] <;> rfl | rw [if_neg (by omega)] <;> rfl)

theorem late_bool (a b : Int) (r : Bool) (h : decide (cl b ≤ cl a) = r) (w : World) : Calls Try.prog 21 #[.int .i64 a, .int .i64 b] w fun e w' => e = .returned (.bool r) ∧ w = w' := by
  rw [← h]; exact late_any a b w
theorem add_is (a b c : Int) (h : cl (cl a + cl b) = c) (w : World) : Calls Try.prog 17 #[.int .i64 a, .int .i64 b] w fun e w' => e = .returned (.int .i64 c) ∧ w = w' := by
  rw [← h]; exact add_any a b w
theorem mul_is (a b c : Int) (h : cl (cl a * cl b) = c) (w : World) : Calls Try.prog 22 #[.int .i64 a, .int .i64 b] w fun e w' => e = .returned (.int .i64 c) ∧ w = w' := by
  rw [← h]; exact mul_any a b w
theorem pause_is (a b c d : Int) (h : pz a b c = d) (w : World) : Calls Try.prog 18 #[.int .i64 a, .int .i64 b, .int .i64 c] w fun e w' => e = .returned (.int .i64 d) ∧ w = w' := by
  rw [← h]; exact pause_any a b c w


theorem u16w (n : Int) : IntKind.u16.wrap n = n % 65536 := by
  simp [IntKind.wrap, IntKind.bits, IntKind.signed]
theorem i16w (n : Int) : IntKind.i16.wrap n = (n + 32768) % 65536 - 32768 := by
  simp [IntKind.wrap, IntKind.bits, IntKind.signed]; split <;> omega
/-- How far b is ahead of a, by the shorter way. -/
def nr (a b : Int) : Int := (b - a + 32768) % 65536 - 32768
/-- As a serial number. -/
def md (a : Int) : Int := a % 65536

theorem near_any (a b : Int) (w : World) : Calls Try.prog 23 #[.int .i64 a, .int .i64 b] w fun e w' => e = .returned (.int .i64 (nr a b)) ∧ w = w' := by
  go_enter Try.func23, Try.ntmps23
  go_wp2
  go_ret
  refine ⟨ret_int ?_, rfl⟩
  simp only [u16w, i16w, wrap64, nr]
  omega
theorem next_any (a : Int) (w : World) : Calls Try.prog 19 #[.int .i64 a] w fun e w' => e = .returned (.int .i64 (md (a + 1))) ∧ w = w' := by
  go_enter Try.func19, Try.ntmps19
  go_wp2
  go_ret
  refine ⟨ret_int ?_, rfl⟩
  simp only [u16w, wrap64, md]
  omega
theorem newer_any (a b : Int) (w : World) : Calls Try.prog 20 #[.int .i64 a, .int .i64 b] w fun e w' => e = .returned (.bool (decide (0 < nr a b))) ∧ w = w' := by
  go_enter Try.func20, Try.ntmps20
  go_wp2_with (go_at_call 23; refine (near_any _ _ _).mono ?_; rintro e w' ⟨rfl, rfl⟩)
  go_ret
  exact ⟨rfl, rfl⟩
end Go.Proofs.Ytbbacdaenpildaa.X

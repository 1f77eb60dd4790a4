/- The two laws of package serial answer true at every argument: SerialNear at any two 64-bit integers, SerialSteps at any 64-bit integer and any 16-bit count; the world is left as it was. -/
import Derived.Test.YtbanppikjbfkmaaXSerialWalks
namespace Go.Proofs.Ytbanppikjbfkmaa.XS
open Go.RowKit

theorem mod_is (a c : Int) (w : World) (h : -9223372036854775808 ≤ a ∧ a ≤ 9223372036854775807) (e : md a = c) : Calls Try.prog 12 #[.int .i64 a] w fun e w' => e = .returned (.int .i64 c) ∧ w = w' := by
  rw [← e]; exact mod_any a w h
theorem refnear_is (a b c : Int) (w : World) (ha : 0 ≤ a ∧ a < 65536) (hb : 0 ≤ b ∧ b < 65536) (e : nr a b = c) : Calls Try.prog 11 #[.int .i64 a, .int .i64 b] w fun e w' => e = .returned (.int .i64 c) ∧ w = w' := by
  rw [← e]; exact refnear_any a b w ha hb

theorem serialNear_true (a b : Int) (w : World) (ha : -9223372036854775808 ≤ a ∧ a ≤ 9223372036854775807) (hb : -9223372036854775808 ≤ b ∧ b ≤ 9223372036854775807) :
    Calls Try.prog 3 #[.int .i64 a, .int .i64 b] w fun e w' => e = .returned (.bool true) ∧ w = w' := by
  have A : 0 ≤ md a ∧ md a < 65536 := by unfold md; omega
  have B : 0 ≤ md b ∧ md b < 65536 := by unfold md; omega
  have D : -32768 ≤ nr a b ∧ nr a b ≤ 32767 := by unfold nr; omega
  have h1 := Lib.hid (p := nr (md a) (md b) = nr a b) (by unfold nr md; omega)
  have h2 := Lib.hid (p := md (md a + nr a b) = md b) (by unfold nr md; omega)
  have h3 := Lib.hid (p := md (md a + 1) = md (a + 1)) (by unfold md; omega)
  go_enter Try.func3, Try.ntmps3
  go_wp2_with (first
    | (go_at_call 9; refine (near_any a b _).mono ?_; rintro e w' ⟨rfl, rfl⟩)
    | (go_at_call 10; refine (answers05_any _).mono ?_; rintro e w' ⟨rfl, rfl⟩)
    | (go_at_call 11; refine (refnear_is (md a) (md b) (nr a b) _ A B h1.out).mono ?_; rintro e w' ⟨rfl, rfl⟩)
    | (go_at_call 13; refine (newer_any a b _).mono ?_; rintro e w' ⟨rfl, rfl⟩)
    | (go_at_call 14; refine (next_any a _).mono ?_; rintro e w' ⟨rfl, rfl⟩)
    | (with_reducible refine (mod_is a (md a) _ ha rfl).mono ?_; rintro e w' ⟨rfl, rfl⟩)
    | (with_reducible refine (mod_is b (md b) _ hb rfl).mono ?_; rintro e w' ⟨rfl, rfl⟩)
    | (with_reducible refine (mod_is (md a + nr a b) (md b) _ ⟨by omega, by omega⟩ h2.out).mono ?_; rintro e w' ⟨rfl, rfl⟩)
    | (with_reducible refine (mod_is (md a + 1) (md (a + 1)) _ ⟨by omega, by omega⟩ h3.out).mono ?_; rintro e w' ⟨rfl, rfl⟩))
  go_ret
  exact ⟨rfl, rfl⟩

theorem serialSteps_true (a n : Int) (w : World) (hn : 0 ≤ n ∧ n ≤ 65535) :
    Calls Try.prog 4 #[.int .i64 a, .int .u16 n] w fun e w' => e = .returned (.bool true) ∧ w = w' := by
  go_enter Try.func4, Try.ntmps4
  go_wp2_with fail
  go_loop [5, 6] (fun s5 s6 => ∃ (b : Int) (i : Nat), (i : Int) ≤ n % 3000 ∧ Hid ((b - a) % 65536 = i) ∧ s5 = .int .i64 b ∧ s6 = .int .i64 i) (fun _ s6 => 3000 - (intOf s6).toNat)
  case atStart => exact ⟨a, 0, by omega, by show _ = _; omega, rfl, rfl⟩
  case round =>
    obtain ⟨b, i, i1, HE, rfl, rfl⟩ := hrel
    by_cases h : (i : Int) < n % 3000
    · go_wp2_with (go_at_call 14; refine (next_any b _).mono ?_; rintro e w' ⟨rfl, rfl⟩)
      go_round
      case rel => exact ⟨_, i + 1, by omega, by show _ = _; have := HE.out; unfold md; omega, rfl, by go_num⟩
      case measure => simp [intOf]; omega
    · have e := HE.out
      have k1 : nr a b = n % 3000 := by unfold nr; omega
      have k2 : nr b a = -(n % 3000) := by unfold nr; omega
      have K1 := Lib.hid k1
      have K2 := Lib.hid k2
      clear k1 k2 e
      go_wp2_with (first
        | (go_at_call 10; refine (answers05_any _).mono ?_; rintro e w' ⟨rfl, rfl⟩)
        | (with_reducible refine (near_is a b (n % 3000) K1.out _).mono ?_; rintro e w' ⟨rfl, rfl⟩)
        | (with_reducible refine (near_is b a (-(n % 3000)) K2.out _).mono ?_; rintro e w' ⟨rfl, rfl⟩)
        | (go_at_call 13; refine (newer_is a b (decide (0 < n % 3000)) (by rw [K1.out]) _).mono ?_; rintro e w' ⟨rfl, rfl⟩))
      go_ret
      exact ⟨rfl, rfl⟩
end Go.Proofs.Ytbanppikjbfkmaa.XS

/- The reference's Dec. -/
import Derived.Test.YtnollfnjidbdcaaDoorXRefP
import Derived.Test.YtnollfnjidbdcaaDoorXLaws
import Derived.Laws.BytesString
namespace Go.Proofs.YtnollfnjidbdcaaDoor.X
open Go.RowKit
set_option linter.unusedSimpArgs false
set_option linter.unusedVariables false

theorem convert_byte (W : World) (z : Int) : (convert 37 9 (.slice (some ⟨W.heap.size, 0, none⟩) 1 1)).run Tryd.prog (W.alloc (.cells #[.int .u8 z] 5)) = .ok (.string ⟨#[UInt8.ofNat z.toNat]⟩) (W.alloc (.cells #[.int .u8 z] 5)) := by
  rw [run_convert_bytes_string _ 37 9 5 _ _ _ Tryd.underlying37 Tryd.underlying5 Tryd.underlying9, run_bytesToString _ _ 1 1 [z] ?_]
  · rfl
  · exact run_loadCells_list (P := Tryd.prog) _ ⟨W.heap.size, 0, none⟩ [.int .u8 z] (fun j v hv => by
      match j, hv with
      | 0, hv => simp at hv; subst hv; simp [Addr.add])
theorem dec_le (u : Nat) (h : u ≤ 9223372036854775808) : (Lib.decDigits u).length ≤ 20 := by
  rw [Lib.decDigits_length]; exact Lib.nDigits_le20 u (by omega)
/-- m is still to be printed; t is printed. -/
def DecAt (u m : Nat) (t : List UInt8) : Prop := (m ≠ 0 ∧ Lib.decDigits u = Lib.decDigits m ++ t) ∨ (m = 0 ∧ t = Lib.decDigits u)
theorem DecAt.len {u m : Nat} {t : List UInt8} (h : DecAt u m t) (hu : u ≤ 9223372036854775808) : t.length ≤ 20 := by
  have := dec_le u hu
  rcases h with ⟨_, h⟩ | ⟨_, h⟩
  · rw [h, List.length_append] at this; omega
  · rw [h]; exact this
theorem DecAt.next {u m : Nat} {t : List UInt8} (h : DecAt u m t) (hm : m ≠ 0) : DecAt u (m / 10) (UInt8.ofNat (48 + m % 10) :: t) := by
  rcases h with ⟨_, h⟩ | ⟨h, _⟩
  · by_cases h10 : m < 10
    · right
      refine ⟨by omega, ?_⟩
      rw [h, Lib.decDigits_one h10, Nat.mod_eq_of_lt h10]
      rfl
    · left
      refine ⟨by omega, ?_⟩
      rw [h]
      rw [Lib.decDigits, dif_neg h10]
      simp
  · exact absurd h hm

set_option maxHeartbeats 2000000 in
set_option maxRecDepth 100000 in
theorem refDec_pos (u : Nat) (h : 0 < u) (h2 : u ≤ 9223372036854775807) (w : World) : Calls Tryd.prog 29 #[.int .i64 u] w (Ret w (.string ⟨(Lib.decDigits u).toArray⟩)) := by
  have kb := convert_byte
  have hne : ¬ (u : Int) = 0 := by omega
  have hnn : ¬ (u : Int) < 0 := by omega
  go_enter Tryd.func29, Tryd.ntmps29
  go_wp2_with fail
  go_loopw [0, 3] (fun v0 v3 wr => ∃ (m : Nat) (t : ByteArray), v0 = .int .i64 m ∧ v3 = .string t ∧ m ≤ u ∧ DecAt u m t.data.toList ∧ Below w.heap.size w wr) (fun v0 _ _ => (intOf v0).toNat)
  case atStart => exact ⟨u, _, rfl, rfl, Nat.le_refl _, .inl ⟨by omega, by simp⟩, Below.refl _ _⟩
  case round =>
    obtain ⟨m, t, rfl, rfl, hm, hD, hB⟩ := hrel
    by_cases h0 : 0 < m
    · have h0i : (0 : Int) < m := by omega
      have hmi : (m : Int) ≤ 9223372036854775807 := by omega
      have ht : (m : Int).tmod 10 = ((m % 10 : Nat) : Int) := by rw [Int.tmod_eq_emod_of_nonneg (by omega)]; omega
      have hq : (m : Int).tdiv 10 = ((m / 10 : Nat) : Int) := by rw [Int.tdiv_eq_ediv_of_nonneg (by omega)]; omega
      have hts : t.size ≤ 20 := by rw [size_is]; exact hD.len (by omega)
      have HD := Lib.hid hD
      have HB := Lib.hid hB
      clear hD hB
      go_wp2_with fail
      go_roundw
      case rel =>
        refine ⟨m / 10, _, by simp, rfl, by omega, ?_, HB.out.alloc HB.out.size _⟩
        have hN := HD.out.next (by omega)
        rw [app_data]
        have e : (48 + UInt8.ofNat (m % 10) : UInt8) = UInt8.ofNat (48 + m % 10) := by simp
        rw [e]
        exact hN
      case measure => simp [intOf]; omega
    · have h0i : ¬ (0 : Int) < m := by omega
      have hz : m = 0 := by omega
      subst hz
      go_wp2_with fail
      go_ret
      refine ⟨str_is ?_, hB⟩
      rcases hD with ⟨h, _⟩ | ⟨_, h⟩
      · exact absurd rfl h
      · exact h

set_option maxHeartbeats 2000000 in
set_option maxRecDepth 100000 in
theorem refDec_neg (u : Nat) (h : 0 < u) (h2 : u ≤ 9223372036854775808) (w : World) : Calls Tryd.prog 29 #[.int .i64 (-(u : Int))] w (Ret w (.string ⟨(45 :: Lib.decDigits u).toArray⟩)) := by
  have kb := convert_byte
  have hne : ¬ (-(u : Int)) = 0 := by omega
  have hnn : (-(u : Int)) < 0 := by omega
  have hmi : -9223372036854775808 ≤ -(u : Int) := by omega
  have ht : (-(u : Int)).tmod 10 = -((u % 10 : Nat) : Int) := by rw [Int.neg_tmod, Int.tmod_eq_emod_of_nonneg (by omega)]; omega
  have hq : (-(u : Int)).tdiv 10 = -((u / 10 : Nat) : Int) := by rw [Int.neg_tdiv, Int.tdiv_eq_ediv_of_nonneg (by omega)]; omega
  have hD0 := Lib.hid ((show DecAt u u [] from .inl ⟨by omega, by simp⟩).next (by omega))
  go_enter Tryd.func29, Tryd.ntmps29
  go_wp2_with fail
  go_loopw [0, 3] (fun v0 v3 wr => ∃ (m : Nat) (t : ByteArray), v0 = .int .i64 (-(m : Int)) ∧ v3 = .string t ∧ m ≤ u ∧ DecAt u m t.data.toList ∧ Below w.heap.size w wr) (fun v0 _ _ => (-(intOf v0)).toNat)
  case atStart => exact ⟨u / 10, _, by simp, rfl, by omega, hD0.out, (Below.refl _ w).alloc (Nat.le_refl _) _⟩
  case round =>
    obtain ⟨m, t, rfl, rfl, hm, hD, hB⟩ := hrel
    have hts : t.size ≤ 20 := by rw [size_is]; exact hD.len (by omega)
    by_cases h0 : 0 < m
    · have h0i : -(m : Int) < 0 := by omega
      have hmi : -9223372036854775808 ≤ -(m : Int) := by omega
      have ht : (-(m : Int)).tmod 10 = -((m % 10 : Nat) : Int) := by rw [Int.neg_tmod, Int.tmod_eq_emod_of_nonneg (by omega)]; omega
      have hq : (-(m : Int)).tdiv 10 = -((m / 10 : Nat) : Int) := by rw [Int.neg_tdiv, Int.tdiv_eq_ediv_of_nonneg (by omega)]; omega
      have HD := Lib.hid hD
      have HB := Lib.hid hB
      clear hD hB
      go_wp2_with fail
      go_roundw
      case rel =>
        refine ⟨m / 10, _, by simp, rfl, by omega, ?_, HB.out.alloc HB.out.size _⟩
        have hN := HD.out.next (by omega)
        rw [app_data]
        have e : (48 + UInt8.ofNat (m % 10) : UInt8) = UInt8.ofNat (48 + m % 10) := by simp
        rw [e]
        exact hN
      case measure => simp [intOf]; omega
    · have h0i : ¬ (-(m : Int)) < 0 := by omega
      have hz : m = 0 := by omega
      subst hz
      go_wp2_with fail
      go_ret
      refine ⟨str_is ?_, hB⟩
      rw [app_data]
      rcases hD with ⟨h, _⟩ | ⟨_, h⟩
      · exact absurd rfl h
      · rw [h]; rfl

set_option maxHeartbeats 1000000 in
theorem refDec_any (n : Int) (h0 : i64ok n) (w : World) : Calls Tryd.prog 29 #[.int .i64 n] w (Ret w (.string ⟨(Lib.itoa n).toArray⟩)) := by
  obtain ⟨h1, h2⟩ := h0
  rcases Int.lt_trichotomy n 0 with h | h | h
  · obtain ⟨u, rfl⟩ : ∃ u : Nat, n = -(u : Int) := ⟨n.natAbs, by omega⟩
    rw [Lib.itoa_neg u (by omega)]
    exact refDec_neg u (by omega) (by omega) w
  · subst h
    have hz : Lib.itoa 0 = [48] := by unfold Lib.itoa; rw [if_neg (by decide)]; exact Lib.decDigits_one (by decide)
    rw [hz]
    go_enter Tryd.func29, Tryd.ntmps29
    go_wp2_with fail
    go_ret
    exact ⟨rfl, Below.refl _ _⟩
  · obtain ⟨u, rfl⟩ : ∃ u : Nat, n = (u : Int) := ⟨n.natAbs, by omega⟩
    rw [Lib.itoa_nonneg u]
    exact refDec_pos u (by omega) (by omega) w
end Go.Proofs.YtnollfnjidbdcaaDoor.X

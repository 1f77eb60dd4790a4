/- The reference's digit and bytes. -/
import Derived.Test.YtnollfnjidbdcaaDoorXLaws
import Derived.Test.YtnollfnjidbdcaaDoorXUnhex
import Derived.RegionTactic
namespace Go.Proofs.YtnollfnjidbdcaaDoor.X
open Go.RowKit
set_option linter.unusedSimpArgs false
set_option linter.unusedVariables false

theorem nib_none (c : UInt8) (h : ∀ i : Fin 16, dgs.getD i.val 0 ≠ c) : nib c = -1 := by
  rcases Int.lt_or_le (nib c) 0 with hn | hn
  · have := Lib.indexByte_ge dgs c
    unfold nib at hn ⊢; omega
  · obtain ⟨o, ho⟩ : ∃ o : Nat, nib c = o := ⟨(nib c).toNat, by omega⟩
    obtain ⟨h1, _⟩ := Lib.indexByte_some (show Lib.indexByte dgs c = o from ho)
    have hlt : o < 16 := (List.getElem?_eq_some_iff.1 h1).1
    exact absurd (by rw [List.getD_eq_getElem?_getD, h1]; rfl) (h ⟨o, hlt⟩)
theorem dgX_all : ∀ i : Fin 16, ((⟨#[48, 49, 50, 51, 52, 53, 54, 55, 56, 57, 97, 98, 99, 100, 101, 102]⟩ : ByteArray)[i.val]'(i.isLt)) = dgs.getD i.val 0 := by decide
theorem byte_eq {a b : UInt8} (h : ((a.toNat : Int) == (b.toNat : Int)) = true) : a = b := by
  have : (a.toNat : Int) = b.toNat := by simpa using h
  exact UInt8.toNat_inj.1 (by omega)
theorem byte_ne {a b : UInt8} (h : ((a.toNat : Int) == (b.toNat : Int)) = false) : a ≠ b := by
  rintro rfl
  simp at h

set_option maxHeartbeats 2000000 in
set_option maxRecDepth 100000 in
theorem refDigit_any (c : UInt8) (w : World) : Calls Tryd.prog 45 #[.int .u8 c.toNat] w (fun e w' => e = .returned (.int .i64 (nib c)) ∧ w = w') := by
  go_enter Tryd.func45, Tryd.ntmps45
  go_wp2_with fail
  go_loopw [3] (fun v3 wr => ∃ k : Nat, k ≤ 16 ∧ v3 = .int .i64 k ∧ (∀ j, j < k → dgs.getD j 0 ≠ c) ∧ w = wr) (fun v3 _ => 16 - (intOf v3).toNat)
  case atStart => exact ⟨0, by omega, rfl, fun j hj => by omega, rfl⟩
  case round =>
    obtain ⟨k, hk, rfl, hn, hB⟩ := hrel
    by_cases h16 : k < 16
    · have h16i : (k : Int) < 16 := by omega
      go_wp2_with fail
      · rename_i hx
        have hc := byte_eq hx
        rw [dgX_all ⟨k, h16⟩] at hc
        have hv := (dgs_ok ⟨k, h16⟩).2.2
        simp only at hv hc
        rw [hc] at hv
        go_ret
        exact ⟨by simp [hv], by first | exact hB | rfl⟩
      · rename_i hx
        have hc := byte_ne hx
        rw [dgX_all ⟨k, h16⟩] at hc
        go_roundw
        case rel =>
          refine ⟨k + 1, by omega, by go_num, fun j hj => ?_, hB⟩
          by_cases e : j = k
          · subst e; exact hc
          · exact hn j (by omega)
        case measure => simp [intOf]; omega
    · have h16i : ¬ (k : Int) < 16 := by omega
      have hz : nib c = -1 := nib_none c (fun i => hn i.val (by omega))
      go_wp2_with fail
      go_ret
      exact ⟨by simp [hz], by first | exact hB | rfl⟩
end Go.Proofs.YtnollfnjidbdcaaDoor.X

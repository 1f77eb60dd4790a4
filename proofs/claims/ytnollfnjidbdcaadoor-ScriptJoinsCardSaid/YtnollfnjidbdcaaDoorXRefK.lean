/- The reference's Number, whole. -/
import Derived.Test.YtnollfnjidbdcaaDoorXRefM
namespace Go.Proofs.YtnollfnjidbdcaaDoor.X
open Go.RowKit
set_option linter.unusedSimpArgs false
set_option linter.unusedVariables false

set_option maxHeartbeats 2000000 in
set_option maxRecDepth 100000 in
theorem refNum_empty (w : World) (h : numL [] = none) : Calls Tryd.prog 28 #[.string ByteArray.empty] w (NumPost [] w) := by
  have H := Lib.hid h
  clear h
  go_enter Tryd.func28, Tryd.ntmps28
  go_wp2_with fail
  go_ret2
  exact numPost_none H.out (Below.refl _ _)
set_option maxHeartbeats 2000000 in
set_option maxRecDepth 100000 in
theorem refNum_long (s : ByteArray) (h0 : 19 < s.size) (c : UInt8) (hc : s[0] = c) (h45 : ((c.toNat : Int) == 45) = false) (hs : s.size ≤ 1000000) (hn : numL s.data.toList = none) (w : World) : Calls Tryd.prog 28 #[.string s] w (NumPost s.data.toList w) := by
  have h0i : (0 : Int) < s.size := by omega
  have h19i : (19 : Int) < s.size := by omega
  have hsi : (s.size : Int) ≤ 1000000 := by omega
  have hse : ¬ s = ByteArray.empty := by rintro rfl; exact absurd h0 (by decide)
  have hsz0 : ((s.size : Int) == 0) = false := by rw [beq_eq_false_iff_ne]; omega
  have H := Lib.hid hn
  clear hn
  go_enter Tryd.func28, Tryd.ntmps28
  go_wp2_with fail
  go_ret2
  exact numPost_none H.out (Below.refl _ _)
set_option maxHeartbeats 2000000 in
set_option maxRecDepth 100000 in
theorem refNum_lead (s : ByteArray) (h0 : 0 < s.size) (h19 : s.size ≤ 19) (hc : s[0] = 48) (hne : (s.toList == [48]) = false) (hn : numL s.data.toList = none) (w : World) : Calls Tryd.prog 28 #[.string s] w (NumPost s.data.toList w) := by
  have h0i : (0 : Int) < s.size := by omega
  have h19i : ¬ (19 : Int) < s.size := by omega
  have hse : ¬ s = ByteArray.empty := by rintro rfl; exact absurd h0 (by decide)
  have hsz0 : ((s.size : Int) == 0) = false := by rw [beq_eq_false_iff_ne]; omega
  have H := Lib.hid hn
  clear hn
  go_enter Tryd.func28, Tryd.ntmps28
  go_wp2_with fail
  go_ret2
  exact numPost_none H.out (Below.refl _ _)
set_option maxHeartbeats 2000000 in
set_option maxRecDepth 100000 in
theorem refNum_minus (w : World) (h : numL [45] = none) : Calls Tryd.prog 28 #[.string ⟨#[45]⟩] w (NumPost [45] w) := by
  have H := Lib.hid h
  clear h
  go_enter Tryd.func28, Tryd.ntmps28
  go_wp2_with fail
  go_ret2
  exact numPost_none H.out (Below.refl _ _)
set_option maxHeartbeats 2000000 in
set_option maxRecDepth 100000 in
theorem refNum_longNeg (s : ByteArray) (h0 : 20 < s.size) (hc : s[0] = 45) (hs : s.size ≤ 1000000) (hn : numL s.data.toList = none) (w : World) : Calls Tryd.prog 28 #[.string s] w (NumPost s.data.toList w) := by
  have h0i : (0 : Int) < s.size := by omega
  have h19i : (20 : Int) < s.size := by omega
  have h19j : (19 : Int) < (s.size : Int) - 1 := by omega
  have hsi : (s.size : Int) ≤ 1000000 := by omega
  have hse : ¬ s = ByteArray.empty := by rintro rfl; exact absurd h0 (by decide)
  have hsz0 : ((s.size : Int) == 1) = false := by rw [beq_eq_false_iff_ne]; omega
  have hw : IntKind.i64.wrap ((s.size : Int) - 1) = (s.size : Int) - 1 := IntWalk.i64_in _ (by omega)
  have H := Lib.hid hn
  clear hn
  go_enter Tryd.func28, Tryd.ntmps28
  go_wp2_with fail
  go_ret2
  exact numPost_none H.out (Below.refl _ _)
set_option maxHeartbeats 2000000 in
set_option maxRecDepth 100000 in
theorem refNum_leadNeg (s : ByteArray) (h0 : 1 < s.size) (h20 : s.size ≤ 20) (hc : s[0] = 45) (hc1 : s[1] = 48) (hne : (s.toList == [48]) = false) (hn : numL s.data.toList = none) (w : World) : Calls Tryd.prog 28 #[.string s] w (NumPost s.data.toList w) := by
  have h0i : (0 : Int) < s.size := by omega
  have h1i : (1 : Int) < s.size := by omega
  have h19i : ¬ (19 : Int) < (s.size : Int) - 1 := by omega
  have hsi : (s.size : Int) ≤ 1000000 := by omega
  have hse : ¬ s = ByteArray.empty := by rintro rfl; exact absurd h0 (by decide)
  have hsz0 : ((s.size : Int) == 1) = false := by rw [beq_eq_false_iff_ne]; omega
  have hw : IntKind.i64.wrap ((s.size : Int) - 1) = (s.size : Int) - 1 := IntWalk.i64_in _ (by omega)
  have H := Lib.hid hn
  clear hn
  go_enter Tryd.func28, Tryd.ntmps28
  go_wp2_with fail
  go_ret2
  exact numPost_none H.out (Below.refl _ _)

theorem byte_not {c : UInt8} {n : Nat} (h : c ≠ UInt8.ofNat n) (hn : n < 256) : ((c.toNat : Int) == (n : Int)) = false := by
  rw [beq_eq_false_iff_ne]
  intro e
  apply h
  apply UInt8.toNat_inj.1
  rw [UInt8.toNat_ofNat']
  omega
theorem refNumber_any (s : ByteArray) (hs : s.size ≤ 1000000) (w : World) : Calls Tryd.prog 28 #[.string s] w (NumPost s.data.toList w) := by
  have hsz := size_is s
  have hsl : s.toList = s.data.toList := Lib.toList_data s
  have hself : s = ⟨s.data.toList.toArray⟩ := rfl
  cases hl : s.data.toList with
  | nil =>
    rw [hself, hl]
    exact refNum_empty w rfl
  | cons c r =>
    have hz : s.size = r.length + 1 := by rw [hsz, hl]; rfl
    have h0 : 0 < s.size := by omega
    have hx0 : s[0] = c := by
      have := Lib.getD_at s 0 h0
      rw [hl] at this
      exact this
    by_cases h45 : c = 45
    · subst h45
      have hno : (∀ u : Nat, r = Lib.decDigits u → 0 < u → u ≤ 9223372036854775808 → False) → numL (45 :: r) = none := fun h => by
        cases hn : numL (45 :: r) with
        | none => rfl
        | some n => obtain ⟨u, g1, g2, g3, _⟩ := num_neg hn; exact (h u g1 g2 g3).elim
      cases r with
      | nil =>
        rw [hself, hl]
        exact refNum_minus w (hno (fun u e _ _ => digits_ne u e.symm))
      | cons c1 r1 =>
        have h1 : 1 < s.size := by rw [hz]; simp
        have hx1 : s[1] = c1 := by
          have := Lib.getD_at s 1 h1
          rw [hl] at this
          exact this
        rw [← hl] at hno ⊢
        by_cases h20 : 20 < s.size
        · exact refNum_longNeg s h20 hx0 hs (hno (fun u e _ g => by have := digits_le19 u g; rw [← e] at this; omega)) w
        · by_cases h48 : c1 = 48
          · subst h48
            exact refNum_leadNeg s h1 (by omega) hx0 hx1 (by rw [hsl, hl]; rfl) (hno (fun u e g _ => digits_head u g (by rw [← e]; rfl))) w
          · exact refNum_neg s (c1 :: r1) hl h1 (by omega) c1 hx1 (byte_not (n := 48) h48 (by omega)) w
    · have h45' : ((c.toNat : Int) == 45) = false := byte_not (n := 45) h45 (by omega)
      have hno : (∀ u : Nat, c :: r = Lib.decDigits u → u ≤ 9223372036854775807 → False) → numL s.data.toList = none := fun h => by
        rw [hl]
        cases hn : numL (c :: r) with
        | none => rfl
        | some n => obtain ⟨u, g1, g2, _⟩ := num_pos (by intro e; exact h45 (Option.some.inj e)) hn; exact (h u g1 g2).elim
      rw [← hl]
      by_cases h19 : 19 < s.size
      · exact refNum_long s h19 c hx0 h45' hs (hno (fun u e g => by have := digits_le19 u (by omega); rw [← e] at this; simp at this; omega)) w
      · by_cases h48 : c = 48
        · subst h48
          cases r with
          | nil =>
            rw [hself, hl]
            exact refNum_zero w
          | cons c1 r1 =>
            refine refNum_lead s h0 (by omega) hx0 (by rw [hsl, hl]; rfl) (hno (fun u e g => ?_)) w
            rcases Nat.eq_zero_or_pos u with hu | hu
            · subst hu
              rw [Lib.decDigits_one (by omega)] at e
              cases e
            · exact digits_head u hu (by rw [← e]; rfl)
        · exact refNum_pos s h0 (by omega) c hx0 h45' (byte_not (n := 48) h48 (by omega)) w
end Go.Proofs.YtnollfnjidbdcaaDoor.X

/- Plain facts on clamped integers (bounds 0 and 2^40): sums, products, products by adding doubles, and doubled pauses. No program in it; conditions stand in each statement. -/
import Derived.RowKit
namespace Go.Proofs.Ytbbacdaenpildaa.XTick
open Go.RowKit

/-- Within 0 and 2^40. -/
def cl (n : Int) : Int := if n < 0 then 0 else if n > 1099511627776 then 1099511627776 else n

theorem cl_bd (n : Int) : 0 ≤ cl n ∧ cl n ≤ 1099511627776 := by unfold cl; omega
theorem cl_of {n : Int} (h : 0 ≤ n) (h' : n ≤ 1099511627776) : cl n = n := by unfold cl; omega
theorem cl_mono {a b : Int} (h : a ≤ b) : cl a ≤ cl b := by unfold cl; omega
theorem cl_wrap {x y : Int} (hx : 0 ≤ x ∧ x ≤ 1099511627776) (hy : 0 ≤ y ∧ y ≤ 1099511627776) : wrap64 (x + y) = x + y := by unfold wrap64; omega
theorem add_assoc' {x y z : Int} (hx : 0 ≤ x) (hy : 0 ≤ y) (hz : 0 ≤ z) : cl (cl (x + y) + z) = cl (x + cl (y + z)) := by unfold cl; omega

/-- The product as the program makes it: a test ahead by a division. -/
theorem mul_eq {x y : Int} (hx : 0 ≤ x ∧ x ≤ 1099511627776) (hy : 0 ≤ y ∧ y ≤ 1099511627776) :
    (if x > 0 then (if x = 0 then (none : Option Int) else (if y > (wrap64 ((1099511627776 : Int) / x)) then (some 1099511627776) else (some (wrap64 (x * y))))) else (some (wrap64 (x * y)))) = some (cl (x * y)) := by
  by_cases h : x > 0
  · rw [if_pos h, if_neg (by omega)]
    have d0 : 0 ≤ (1099511627776 : Int) / x := Int.ediv_nonneg (by omega) (by omega)
    have d1 : (1099511627776 : Int) / x ≤ 1099511627776 := Int.ediv_le_self _ (by omega)
    have e : wrap64 ((1099511627776 : Int) / x) = (1099511627776 : Int) / x := by unfold wrap64; omega
    rw [e]
    by_cases hy' : y > (1099511627776 : Int) / x
    · rw [if_pos hy']
      have := (Int.ediv_lt_iff_lt_mul h).1 hy'
      rw [Int.mul_comm] at this
      congr 1; unfold cl; omega
    · rw [if_neg hy']
      have hle : y ≤ (1099511627776 : Int) / x := by omega
      have h2 := (Int.le_ediv_iff_mul_le h).1 hle
      rw [Int.mul_comm] at h2
      have h3 : 0 ≤ x * y := Int.mul_nonneg (by omega) (by omega)
      congr 1; unfold cl wrap64; omega
  · rw [if_neg h]
    obtain rfl : x = 0 := by omega
    simp [wrap64, cl]

theorem mul_mono {x y z : Int} (hz : 0 ≤ z) (h : x ≤ y) : cl (x * z) ≤ cl (y * z) :=
  cl_mono (Int.mul_le_mul_of_nonneg_right h hz)

/-- One round of the reference's product: a bit of b. -/
theorem step_odd {out a b : Int} (ho : 0 ≤ out ∧ out ≤ 1099511627776) (ha : 0 ≤ a ∧ a ≤ 1099511627776) (hb : 0 ≤ b) :
    cl (cl (out + a) + cl (a + a) * b) = cl (out + a * (2 * b + 1)) := by
  have e1 : a * (2 * b + 1) = 2 * (a * b) + a := by rw [Int.mul_add, Int.mul_one, ← Int.mul_assoc, Int.mul_comm a 2, Int.mul_assoc]
  have q0 : 0 ≤ a * b := Int.mul_nonneg ha.1 hb
  rw [e1]
  by_cases hb0 : b = 0
  · subst hb0; simp only [Int.mul_zero]; unfold cl; omega
  · by_cases h2 : a + a ≤ 1099511627776
    · have e2 : cl (a + a) = 2 * a := by unfold cl; omega
      rw [e2, Int.mul_assoc]; unfold cl; omega
    · have e2 : cl (a + a) = 1099511627776 := by unfold cl; omega
      have q1 : a ≤ a * b := (by have := Int.mul_le_mul_of_nonneg_left (show (1 : Int) ≤ b by omega) ha.1; rwa [Int.mul_one] at this)
      rw [e2]; unfold cl; omega
theorem step_even {out a b : Int} (ho : 0 ≤ out ∧ out ≤ 1099511627776) (ha : 0 ≤ a ∧ a ≤ 1099511627776) (hb : 0 < b) :
    cl (out + cl (a + a) * b) = cl (out + a * (2 * b)) := by
  have e1 : a * (2 * b) = 2 * (a * b) := by rw [← Int.mul_assoc, Int.mul_comm a 2, Int.mul_assoc]
  have q0 : 0 ≤ a * b := Int.mul_nonneg ha.1 (by omega)
  rw [e1]
  by_cases h2 : a + a ≤ 1099511627776
  · have e2 : cl (a + a) = 2 * a := by unfold cl; omega
    rw [e2, Int.mul_assoc]
  · have e2 : cl (a + a) = 1099511627776 := by unfold cl; omega
    have q1 : a ≤ a * b := (by have := Int.mul_le_mul_of_nonneg_left (show (1 : Int) ≤ b by omega) ha.1; rwa [Int.mul_one] at this)
    rw [e2]; unfold cl; omega

/-- p doubled t times, bounded. -/
def dbl (p : Int) : Nat → Int
  | 0 => p
  | t + 1 => cl (dbl p t + dbl p t)

theorem dbl_bd {p : Int} (hp : 0 ≤ p ∧ p ≤ 1099511627776) (t : Nat) : 0 ≤ dbl p t ∧ dbl p t ≤ 1099511627776 := by
  cases t with
  | zero => exact hp
  | succ t => exact cl_bd _
theorem dbl_pow {p : Int} (hp : 0 ≤ p ∧ p ≤ 1099511627776) (t : Nat) : dbl p t = cl (p * 2 ^ t) := by
  induction t with
  | zero => simp only [dbl, Int.pow_zero, Int.mul_one]; rw [cl_of hp.1 hp.2]
  | succ t ih =>
    have q : 0 ≤ p * 2 ^ t := Int.mul_nonneg hp.1 (Int.pow_nonneg (by omega))
    rw [dbl, ih, Int.pow_succ, ← Int.mul_assoc]
    unfold cl; omega
/-- Past 40 doublings nothing turns any more. -/
theorem dbl_past {p : Int} (hp : 0 ≤ p ∧ p ≤ 1099511627776) (t : Nat) (h : 40 ≤ t) : dbl p t = dbl p 40 := by
  have e : dbl p 40 = if p = 0 then 0 else 1099511627776 := by
    rw [dbl_pow hp]
    split
    · rename_i h; subst h; rfl
    · unfold cl; omega
  obtain ⟨d, rfl⟩ := Nat.exists_eq_add_of_le h
  clear h
  induction d with
  | zero => rfl
  | succ d ih => rw [← Nat.add_assoc, dbl, ih, e]; split <;> rfl
theorem dbl_mono {p q : Int} (h : p ≤ q) (t : Nat) : dbl p t ≤ dbl q t := by
  induction t with
  | zero => exact h
  | succ t ih => exact cl_mono (by omega)
theorem dbl_min {p : Int} (hp : 0 ≤ p ∧ p ≤ 1099511627776) (t m : Nat) (hm : 40 ≤ m) : dbl p (min t m) = dbl p t := by
  by_cases h : t ≤ m
  · rw [Nat.min_eq_left h]
  · rw [Nat.min_eq_right (by omega), dbl_past hp m hm, dbl_past hp t (by omega)]

/-- The program's factor of a pause: 2 to the tries (at most 62), clamped as a factor. -/
theorem pause_eq {p : Int} (hp : 0 ≤ p ∧ p ≤ 1099511627776) (n : Int) :
    cl (p * cl (wrap64 (2 ^ (if (62 : Int) < (if n < 0 then 0 else n) then 62 else (if n < 0 then 0 else n)).toNat))) = dbl p n.toNat := by
  generalize hs : (if (62 : Int) < (if n < 0 then 0 else n) then 62 else (if n < 0 then 0 else n)).toNat = s
  have hs' : s = min n.toNat 62 := by omega
  have hs2 : s ≤ 62 := by omega
  have e : wrap64 (2 ^ s) = 2 ^ s := by
    have h1 : (0 : Int) < 2 ^ s := Int.pow_pos (by omega)
    have h2 : (2 : Int) ^ s ≤ 2 ^ 62 := by exact_mod_cast Nat.pow_le_pow_right (by omega) hs2
    have h3 : (2 : Int) ^ 62 = 4611686018427387904 := by decide
    unfold wrap64; omega
  rw [e, ← dbl_min hp n.toNat 62 (by omega), ← hs']
  by_cases h : s ≤ 40
  · have h1 : (0 : Int) < 2 ^ s := Int.pow_pos (by omega)
    have h2 : (2 : Int) ^ s ≤ 2 ^ 40 := by exact_mod_cast Nat.pow_le_pow_right (by omega) h
    have h3 : (2 : Int) ^ 40 = 1099511627776 := by decide
    rw [show cl (2 ^ s) = 2 ^ s from cl_of (by omega) (by omega), dbl_pow hp]
  · have h2 : (2 : Int) ^ 40 ≤ 2 ^ s := by exact_mod_cast Nat.pow_le_pow_right (by omega) (show 40 ≤ s by omega)
    have h3 : (2 : Int) ^ 40 = 1099511627776 := by decide
    have e1 : cl (2 ^ s) = 2 ^ 40 := by unfold cl; omega
    rw [e1, dbl_past hp s (by omega), dbl_pow hp]
end Go.Proofs.Ytbbacdaenpildaa.XTick

/- What the reference's Number takes: just the numerals that Itoa writes. Plain laws. -/
import Derived.Test.YtnollfnjidbdcaaDoorXLaws
import Derived.Lib.Atoi
import Derived.Lib.ItoaLen
import Derived.Lib.ItoaMem
namespace Go.Proofs.YtnollfnjidbdcaaDoor.X
open Go

theorem decFrom_snoc : ∀ (l : List UInt8) (acc : Nat) (c : UInt8), Lib.decFrom acc (l ++ [c]) = (Lib.decFrom acc l).bind fun m => (Lib.digitVal c).map fun d => m * 10 + d
  | [], acc, c => by
    simp only [List.nil_append, Lib.decFrom, Option.bind_some]
    cases Lib.digitVal c <;> rfl
  | a :: r, acc, c => by
    simp only [List.cons_append, Lib.decFrom]
    cases Lib.digitVal a with
    | none => rfl
    | some d => exact decFrom_snoc r _ c
theorem digitVal_nat (i : Nat) (h : i < 10) : Lib.digitVal (UInt8.ofNat (48 + i)) = some i := by
  unfold Lib.digitVal
  rw [digit_nat i h, if_pos (by omega)]
  congr 1; omega
theorem dec_digits (u : Nat) : Lib.decFrom 0 (Lib.decDigits u) = some u := by
  induction u using Nat.strongRecOn with
  | ind u ih =>
    rw [Lib.decDigits]
    split
    · rename_i h
      simp only [Lib.decFrom, digitVal_nat u h]
      congr 1; omega
    · rename_i h
      rw [decFrom_snoc, ih _ (by omega), digitVal_nat _ (by omega)]
      simp only [Option.bind_some, Option.map_some]
      congr 1; omega
theorem digitVal_inv {c : UInt8} {d : Nat} (h : Lib.digitVal c = some d) : d < 10 ∧ c = UInt8.ofNat (48 + d) := by
  obtain ⟨h1, h2, h3⟩ := Lib.digitVal_eq h
  refine ⟨by omega, UInt8.toNat_inj.1 ?_⟩
  rw [digit_nat d (by omega)]
  omega
theorem digits_unique : ∀ (k : Nat) (ds : List UInt8) (n : Nat), ds.length = k + 1 → Lib.decFrom 0 ds = some n → (ds = [48] ∨ ds.head? ≠ some 48) → Lib.decDigits n = ds ∧ (ds ≠ [48] → 0 < n)
  | 0, ds, n, hl, h, h0 => by
    match ds, hl with
    | [c], _ =>
      simp only [Lib.decFrom] at h
      cases hd : Lib.digitVal c with
      | none => rw [hd] at h; cases h
      | some d =>
        rw [hd] at h
        simp only [Option.some.injEq] at h
        obtain ⟨h1, h2⟩ := digitVal_inv hd
        have hn : n = d := by omega
        subst hn
        rw [Lib.decDigits_one h1, ← h2]
        refine ⟨rfl, fun hne => ?_⟩
        rcases Nat.eq_zero_or_pos n with hz | hz
        · subst hz
          exact absurd (by rw [h2]; rfl) hne
        · exact hz
  | k + 1, ds, n, hl, h, h0 => by
    obtain ⟨as, c, rfl⟩ : ∃ as c, ds = as ++ [c] := ⟨ds.dropLast, ds.getLast (by intro e; rw [e] at hl; simp at hl), (List.dropLast_concat_getLast _).symm⟩
    have hal : as.length = k + 1 := by simp at hl; omega
    have hne : as ≠ [] := by intro e; rw [e] at hal; simp at hal
    rw [decFrom_snoc] at h
    cases hm : Lib.decFrom 0 as with
    | none => rw [hm] at h; cases h
    | some m =>
      cases hd : Lib.digitVal c with
      | none => rw [hm, hd] at h; cases h
      | some d =>
        rw [hm, hd] at h
        simp only [Option.bind_some, Option.map_some, Option.some.injEq] at h
        obtain ⟨h1, h2⟩ := digitVal_inv hd
        have hh : as.head? ≠ some 48 := by
          rcases h0 with h0 | h0
          · have := congrArg List.length h0; rw [List.length_append, hal] at this; simp at this
          · intro e
            apply h0
            cases as with
            | nil => exact absurd rfl hne
            | cons a r => exact e
        have hne48 : as ≠ [48] := by intro e; rw [e] at hh; exact hh rfl
        have ih := digits_unique k as m hal hm (.inr hh)
        have hm0 : 0 < m := ih.2 hne48
        have hn : ¬ (m * 10 + d) < 10 := by omega
        rw [← h]
        refine ⟨?_, fun _ => by omega⟩
        rw [Lib.decDigits, dif_neg hn, show (m * 10 + d) / 10 = m by omega, show (m * 10 + d) % 10 = d by omega, ih.1, h2]
theorem digits_head (u : Nat) (h : 0 < u) : (Lib.decDigits u).head? ≠ some 48 := by
  induction u using Nat.strongRecOn with
  | ind u ih =>
    rw [Lib.decDigits]
    split
    · rename_i h10
      intro e
      have e := Option.some.inj e
      have := congrArg UInt8.toNat e
      rw [digit_nat u h10] at this
      have h48 : (48 : UInt8).toNat = 48 := rfl
      omega
    · have := ih (u / 10) (by omega) (by omega)
      cases hd : Lib.decDigits (u / 10) with
      | nil => exact absurd hd (digits_ne _)
      | cons a r => rw [hd] at this; exact this
theorem numL_some {l : List UInt8} {n : Int} (h : numL l = some n) : l = Lib.itoa n ∧ -9223372036854775808 ≤ n ∧ n ≤ 9223372036854775807 := by
  unfold numL at h
  split at h
  · rename_i hv
    have h := Option.some.inj h
    subst h
    unfold numV at hv ⊢
    cases hA : Lib.atoiAll l with
    | ok n =>
      rw [hA] at hv
      exact ⟨(beq_iff_eq.1 hv).symm, Lib.atoiAll_bounds hA⟩
    | range => rw [hA] at hv; cases hv
    | _ => rw [hA] at hv; cases hv
  · cases h
theorem nDigits_le : ∀ (k u : Nat), u < 10 ^ (k + 1) → Lib.nDigits u ≤ k + 1
  | 0, u, h => by rw [Lib.nDigits_small (by simpa using h)]; omega
  | k + 1, u, h => by
    by_cases h10 : u < 10
    · rw [Lib.nDigits_small h10]; omega
    · rw [Lib.nDigits_big h10]
      have := nDigits_le k (u / 10) (by rw [Nat.pow_succ] at h; omega)
      omega
theorem digits_le19 (u : Nat) (h : u ≤ 9223372036854775808) : (Lib.decDigits u).length ≤ 19 := by
  rw [Lib.decDigits_length]
  exact nDigits_le 18 u (by have : (10 : Nat) ^ (18 + 1) = 10000000000000000000 := by decide
                            omega)
theorem num_neg {ds : List UInt8} {n : Int} (h : numL (45 :: ds) = some n) : ∃ u : Nat, ds = Lib.decDigits u ∧ 0 < u ∧ u ≤ 9223372036854775808 ∧ n = -(u : Int) := by
  obtain ⟨h1, h2, h3⟩ := numL_some h
  unfold Lib.itoa at h1
  split at h1
  · exact ⟨n.natAbs, (List.cons.inj h1).2, by omega, by omega, by omega⟩
  · have := digits_mem n.toNat 45 (by rw [← h1]; simp)
    have h45 : (45 : UInt8).toNat = 45 := rfl
    omega
theorem num_pos {l : List UInt8} {n : Int} (h0 : l.head? ≠ some 45) (h : numL l = some n) : ∃ u : Nat, l = Lib.decDigits u ∧ u ≤ 9223372036854775807 ∧ n = (u : Int) := by
  obtain ⟨h1, h2, h3⟩ := numL_some h
  unfold Lib.itoa at h1
  split at h1
  · exact absurd (by rw [h1]; rfl) h0
  · exact ⟨n.toNat, h1, by omega, by omega⟩
theorem num_take {ds : List UInt8} {n : Nat} (hne : ds ≠ []) (h : Lib.decFrom 0 ds = some n) (h0 : ds = [48] ∨ ds.head? ≠ some 48) (hn : n ≤ 9223372036854775807) : numL ds = some (n : Int) := by
  obtain ⟨k, hk⟩ : ∃ k, ds.length = k + 1 := ⟨ds.length - 1, by have := List.length_pos_iff.2 hne; omega⟩
  have := (digits_unique k ds n hk h h0).1
  rw [← this, ← Lib.itoa_nonneg n]
  exact numL_itoa n (by omega) (by omega)
theorem num_takeNeg {ds : List UInt8} {n : Nat} (hne : ds ≠ []) (h : Lib.decFrom 0 ds = some n) (h0 : ds.head? ≠ some 48) (hn : n ≤ 9223372036854775808) : numL (45 :: ds) = some (-(n : Int)) ∧ 0 < n := by
  obtain ⟨k, hk⟩ : ∃ k, ds.length = k + 1 := ⟨ds.length - 1, by have := List.length_pos_iff.2 hne; omega⟩
  have hu := digits_unique k ds n hk h (.inr h0)
  have hp : 0 < n := hu.2 (by intro e; rw [e] at h0; exact h0 rfl)
  refine ⟨?_, hp⟩
  rw [← hu.1, ← Lib.itoa_neg n hp]
  exact numL_itoa _ (by omega) (by omega)
end Go.Proofs.YtnollfnjidbdcaaDoor.X

/- The reference's Number, behind a minus; and what it does not look into. -/
import Derived.Test.YtnollfnjidbdcaaDoorXRefN
namespace Go.Proofs.YtnollfnjidbdcaaDoor.X
open Go.RowKit
set_option linter.unusedSimpArgs false
set_option linter.unusedVariables false

set_option maxHeartbeats 2000000 in
set_option maxRecDepth 100000 in
theorem refNum_neg (s : ByteArray) (ds : List UInt8) (hl : s.data.toList = 45 :: ds) (h1 : 1 < s.size) (h20 : s.size ≤ 20) (c : UInt8) (hc : s[1] = c) (h48b : ((c.toNat : Int) == 48) = false) (w : World) : Calls Tryd.prog 28 #[.string s] w (NumPost s.data.toList w) := by
  have h0 : 0 < s.size := by omega
  have h0i : (0 : Int) < s.size := by omega
  have h1i : (1 : Int) < s.size := by omega
  have h20i : (s.size : Int) ≤ 20 := by omega
  have hse : ¬ s = ByteArray.empty := by rintro rfl; exact absurd h0 (by decide)
  have hsz1 : ((s.size : Int) == 1) = false := by rw [beq_eq_false_iff_ne]; omega
  have hx0 : s[0] = 45 := by
    have := Lib.getD_at s 0 h0
    rw [hl] at this
    exact this
  have hw : IntKind.i64.wrap ((s.size : Int) - 1) = (s.size : Int) - 1 := IntWalk.i64_in _ (by omega)
  have hL : s.size = ds.length + 1 := by rw [size_is, hl]; rfl
  have HL := Lib.hid hL
  have HLL := Lib.hid hl
  have hd0 : ds.head? = some c := by
    have h2 := Lib.getD_at s 1 h1
    rw [hl, hc] at h2
    cases hh : ds with
    | nil => rw [hh] at hL; have h9 : s.size = 1 := hL; omega
    | cons a r => rw [hh] at h2; rw [h2]; rfl
  have hno : (∀ u, ds ≠ Lib.decDigits u ∨ 9223372036854775808 < u) → numL s.data.toList = none := fun h => by
    rw [hl]
    cases hn : numL (45 :: ds) with
    | none => rfl
    | some n =>
      obtain ⟨u, g1, _, g2, _⟩ := num_neg hn
      rcases h u with h | h
      · exact absurd g1 h
      · omega
  have hhead : ds.head? ≠ some 48 := by
    rw [hd0]; intro e; have e := Option.some.inj e; rw [e] at h48b; exact absurd h48b (by decide)
  clear hL hl hd0
  go_enter Tryd.func28, Tryd.ntmps28
  go_wp2_with fail
  go_loopw [6, 7] (fun v6 v7 wr => ∃ (k m : Nat), 1 ≤ k ∧ k ≤ s.size ∧ v7 = .int .i64 k ∧ v6 = .int .u64 m ∧ Lib.decFrom 0 (ds.take (k - 1)) = some m ∧ Below w.heap.size w wr) (fun _ v7 _ => s.size - (intOf v7).toNat)
  case atStart => exact ⟨1, 0, Nat.le_refl _, by omega, rfl, rfl, rfl, Below.refl _ _⟩
  case round =>
    obtain ⟨k, m, hk1, hk, rfl, rfl, hm, hB⟩ := hrel
    have HM := Lib.hid hm
    have HB := Lib.hid hB
    clear hm hB
    by_cases hkl : k < s.size
    · have hkli : (k : Int) < s.size := by omega
      obtain ⟨x, hx⟩ : ∃ x, s[k] = x := ⟨_, rfl⟩
      have hlx : ds[k - 1]? = some x := by
        have g1 := Lib.getD_at s k hkl
        have hl2 : k - 1 < ds.length := by have := HL.out; omega
        obtain ⟨q, rfl⟩ : ∃ q, k = q + 1 := ⟨k - 1, by omega⟩
        rw [Nat.add_sub_cancel] at hl2 ⊢
        rw [hx, HLL.out, List.getD_eq_getElem?_getD, List.getElem?_cons_succ, List.getElem?_eq_getElem hl2] at g1
        rw [List.getElem?_eq_getElem hl2]
        exact congrArg some g1.symm
      have HLX := Lib.hid hlx
      clear hlx
      by_cases hd : 48 ≤ x.toNat ∧ x.toNat ≤ 57
      · obtain ⟨d1, d2⟩ := hd
        have d1i : ¬ (x.toNat : Int) < 48 := by omega
        have d2i : ¬ (57 : Int) < x.toNat := by omega
        have d3 : (48 : Int) ≤ x.toNat := by omega
        have d4 : (x.toNat : Int) ≤ 57 := by omega
        have hml : (m : Int) ≤ 1000000000000000000 := by
          have h1 := Lib.decFrom_lt _ _ _ HM.out
          have h2 : (ds.take (k - 1)).length ≤ 18 := by rw [List.length_take]; omega
          have h3 : 10 ^ (ds.take (k - 1)).length ≤ 10 ^ 18 := Nat.pow_le_pow_right (by omega) h2
          have h4 : (10 : Nat) ^ 18 = 1000000000000000000 := by decide
          omega
        go_wp2_with fail
        go_roundw
        case rel =>
          refine ⟨k + 1, m * 10 + (x.toNat - 48), by omega, by omega, by go_num, ?_, ?_, HB.out⟩
          · congr 1; omega
          · rw [show k + 1 - 1 = (k - 1) + 1 by omega, List.take_add_one, HLX.out, Option.toList_some, decFrom_snoc, HM.out]
            simp only [Option.bind_some, Lib.digitVal]
            rw [if_pos ⟨d1, d2⟩]
            rfl
        case measure => simp [intOf]; omega
      · have hbad := Lib.hid (show numL s.data.toList = none from hno (fun u => .inl (fun e => hd (digits_mem u x (by rw [← e]; exact List.mem_of_getElem? HLX.out)))))
        go_wp2_with fail
        all_goals go_ret2
        all_goals exact numPost_none hbad.out HB.out
    · have hkli : ¬ (k : Int) < s.size := by omega
      have hfull : Lib.decFrom 0 ds = some m := by
        have := HM.out
        rwa [List.take_of_length_le (by have := HL.out; omega)] at this
      by_cases hmm : m ≤ 9223372036854775808
      · obtain ⟨hgood0, hpos⟩ := num_takeNeg (by intro e; have := HL.out; rw [e] at this; have h9 : s.size = 1 := this; omega) hfull hhead hmm
        have hmi : ¬ (9223372036854775808 : Int) < m := by omega
        have hmi2 : (m : Int) ≤ 9223372036854775808 := by omega
        have hmi3 : (1 : Int) ≤ m := by omega
        have hgood := Lib.hid (show numL s.data.toList = some (-(m : Int)) by rw [HLL.out]; exact hgood0)
        clear hfull hgood0
        go_wp2_with fail
        go_ret2
        have e : (-((m : Int) - 1) - 1) = -(m : Int) := by omega
        rw [e]
        exact numPost_some hgood.out HB.out
      · have hmi : (9223372036854775808 : Int) < m := by omega
        have hbad := Lib.hid (show numL s.data.toList = none from hno (fun u => by
          by_cases e : ds = Lib.decDigits u
          · right
            rw [e, dec_digits] at hfull
            have := Option.some.inj hfull
            omega
          · exact .inl e))
        clear hfull
        go_wp2_with fail
        go_ret2
        exact numPost_none hbad.out HB.out
end Go.Proofs.YtnollfnjidbdcaaDoor.X

/- The reference's Number. -/
import Derived.Test.YtnollfnjidbdcaaDoorXNumLaw
import Derived.Test.YtnollfnjidbdcaaDoorXUnhex
import Derived.RegionTactic
namespace Go.Proofs.YtnollfnjidbdcaaDoor.X
open Go.RowKit
set_option linter.unusedSimpArgs false
set_option linter.unusedVariables false

def NumPost (l : List UInt8) (w : World) (e : Ending) (w' : World) : Prop :=
  (e = match numL l with | some n => .returned (.tuple #[.int .i64 n, .bool true]) | none => .returned (.tuple #[.int .i64 0, .bool false])) ∧ Below w.heap.size w w'
theorem numPost_none {l : List UInt8} {w w' : World} (h : numL l = none) (hb : Below w.heap.size w w') : NumPost l w (.returned (.tuple #[.int .i64 0, .bool false])) w' := by
  refine ⟨?_, hb⟩; rw [h]
theorem numPost_some {l : List UInt8} {n : Int} {w w' : World} (h : numL l = some n) (hb : Below w.heap.size w w') : NumPost l w (.returned (.tuple #[.int .i64 n, .bool true])) w' := by
  refine ⟨?_, hb⟩; rw [h]

set_option maxHeartbeats 2000000 in
set_option maxRecDepth 100000 in
theorem refNum_pos (s : ByteArray) (h0 : 0 < s.size) (h19 : s.size ≤ 19) (c : UInt8) (hc : s[0] = c) (h45 : ((c.toNat : Int) == 45) = false) (h48b : ((c.toNat : Int) == 48) = false) (w : World) : Calls Tryd.prog 28 #[.string s] w (NumPost s.data.toList w) := by
  have h0i : (0 : Int) < s.size := by omega
  have h19i : (s.size : Int) ≤ 19 := by omega
  have hse : ¬ s = ByteArray.empty := by rintro rfl; exact absurd h0 (by decide)
  have hsz0 : ((s.size : Int) == 0) = false := by rw [beq_eq_false_iff_ne]; omega
  have hL := size_is s
  have HL := Lib.hid hL
  clear hL
  have hl0 : s.data.toList.head? = some c := by
    have h1 := Lib.getD_at s 0 h0
    cases hh : s.data.toList with
    | nil => have := HL.out; rw [hh] at this; have h9 : s.size = 0 := this; omega
    | cons a r => rw [hh, hc] at h1; rw [h1]; rfl
  have hno : (∀ u, s.data.toList ≠ Lib.decDigits u ∨ 9223372036854775807 < u) → numL s.data.toList = none := fun h => by
    cases hn : numL s.data.toList with
    | none => rfl
    | some n =>
      have h45' : s.data.toList.head? ≠ some 45 := by
        rw [hl0]; intro e; have e := Option.some.inj e; rw [e] at h45; exact absurd h45 (by decide)
      obtain ⟨u, h1, h2, _⟩ := num_pos h45' hn
      rcases h u with h | h
      · exact absurd h1 h
      · omega
  have hhead : ((c.toNat : Int) == 48) = false → s.data.toList.head? ≠ some 48 := fun h => by
    rw [hl0]; intro e; have e := Option.some.inj e; rw [e] at h; exact absurd h (by decide)
  have H48 := h48b
  go_enter Tryd.func28, Tryd.ntmps28
  go_wp2_with fail
  go_loopw [6, 7] (fun v6 v7 wr => ∃ (k m : Nat), k ≤ s.size ∧ v7 = .int .i64 k ∧ v6 = .int .u64 m ∧ Lib.decFrom 0 (s.data.toList.take k) = some m ∧ Below w.heap.size w wr) (fun _ v7 _ => s.size - (intOf v7).toNat)
  case atStart => exact ⟨0, 0, by omega, rfl, rfl, rfl, Below.refl _ _⟩
  case round =>
    obtain ⟨k, m, hk, rfl, rfl, hm, hB⟩ := hrel
    have HM := Lib.hid hm
    have HB := Lib.hid hB
    clear hm hB
    by_cases hkl : k < s.size
    · have hkli : (k : Int) < s.size := by omega
      obtain ⟨x, hx⟩ : ∃ x, s[k] = x := ⟨_, rfl⟩
      have hlx : s.data.toList[k]? = some x := by
        have h1 := Lib.getD_at s k hkl
        have hl2 : k < s.data.toList.length := by rw [← HL.out]; exact hkl
        rw [hx, List.getD_eq_getElem?_getD, List.getElem?_eq_getElem hl2] at h1
        rw [List.getElem?_eq_getElem hl2]
        exact congrArg some h1.symm
      have HLX := Lib.hid hlx
      clear hlx
      by_cases hd : 48 ≤ x.toNat ∧ x.toNat ≤ 57
      · obtain ⟨d1, d2⟩ := hd
        have d1i : ¬ (x.toNat : Int) < 48 := by omega
        have d2i : ¬ (57 : Int) < x.toNat := by omega
        have d3 : (48 : Int) ≤ x.toNat := by omega
        have d4 : (x.toNat : Int) ≤ 57 := by omega
        have hml : (m : Int) ≤ 1000000000000000000 := by
          have h1 := Lib.decFrom_lt _ _ _ HM.out
          have h2 : (s.data.toList.take k).length ≤ 18 := by rw [List.length_take]; omega
          have h3 : 10 ^ (s.data.toList.take k).length ≤ 10 ^ 18 := Nat.pow_le_pow_right (by omega) h2
          have h4 : (10 : Nat) ^ 18 = 1000000000000000000 := by decide
          omega
        go_wp2_with fail
        go_roundw
        case rel =>
          refine ⟨k + 1, m * 10 + (x.toNat - 48), by omega, by go_num, ?_, ?_, HB.out⟩
          · congr 1; omega
          · rw [List.take_add_one, HLX.out, Option.toList_some, decFrom_snoc, HM.out]
            simp only [Option.bind_some, Lib.digitVal]
            rw [if_pos ⟨d1, d2⟩]
            rfl
        case measure => simp [intOf]; omega
      · have hbad := Lib.hid (show numL s.data.toList = none from hno (fun u => .inl (fun e => hd (digits_mem u x (by rw [← e]; exact List.mem_of_getElem? HLX.out)))))
        go_wp2_with fail
        all_goals go_ret2
        all_goals exact numPost_none hbad.out HB.out
    · have hkli : ¬ (k : Int) < s.size := by omega
      have hfull : Lib.decFrom 0 s.data.toList = some m := by
        have := HM.out
        rwa [List.take_of_length_le (by have := HL.out; omega)] at this
      by_cases hmm : m ≤ 9223372036854775807
      · have hmi : ¬ (9223372036854775807 : Int) < m := by omega
        have hmi2 : (m : Int) ≤ 9223372036854775807 := by omega
        have hgood := Lib.hid (num_take (by intro e; have := HL.out; rw [e] at this; have h9 : s.size = 0 := this; omega) hfull (.inr (hhead h48b)) hmm)
        clear hfull
        go_wp2_with fail
        go_ret2
        exact numPost_some hgood.out HB.out
      · have hmi : (9223372036854775807 : Int) < m := by omega
        have hbad := Lib.hid (show numL s.data.toList = none from hno (fun u => by
          by_cases e : s.data.toList = Lib.decDigits u
          · right
            rw [e, dec_digits] at hfull
            have := Option.some.inj hfull
            omega
          · exact .inl e))
        clear hfull
        go_wp2_with fail
        go_ret2
        exact numPost_none hbad.out HB.out

set_option maxHeartbeats 2000000 in
set_option maxRecDepth 100000 in
theorem refNum_zero (w : World) : Calls Tryd.prog 28 #[.string ⟨#[48]⟩] w (NumPost [48] w) := by
  have h0 : numL [48] = some 0 := num_take (n := 0) (by simp) rfl (.inl rfl) (by omega)
  have H0 := Lib.hid h0
  clear h0
  go_enter Tryd.func28, Tryd.ntmps28
  go_wp2_with fail
  go_loopw [6, 7] (fun v6 v7 wr => ∃ (k : Nat), k ≤ 1 ∧ v7 = .int .i64 k ∧ v6 = .int .u64 0 ∧ Below w.heap.size w wr) (fun _ v7 _ => 1 - (intOf v7).toNat)
  case atStart => exact ⟨0, by omega, rfl, rfl, Below.refl _ _⟩
  case round =>
    obtain ⟨k, hk, rfl, rfl, hB⟩ := hrel
    by_cases h : k = 0
    · subst h
      go_wp2_with fail
      go_roundw
      case rel => exact ⟨1, by omega, rfl, rfl, hB⟩
      case measure => simp [intOf]
    · have h1 : k = 1 := by omega
      subst h1
      go_wp2_with fail
      go_ret2
      exact numPost_some H0.out hB
end Go.Proofs.YtnollfnjidbdcaaDoor.X

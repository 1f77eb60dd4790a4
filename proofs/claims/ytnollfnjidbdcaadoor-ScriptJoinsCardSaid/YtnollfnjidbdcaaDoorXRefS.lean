/- The reference's Setting. -/
import Derived.Test.YtnollfnjidbdcaaDoorXRefF
import Derived.Test.YtnollfnjidbdcaaDoorXSetting
import Derived.Test.YtnollfnjidbdcaaDoorXRefL
namespace Go.Proofs.YtnollfnjidbdcaaDoor.X
open Go.RowKit
set_option linter.unusedSimpArgs false
set_option linter.unusedVariables false

set_option maxHeartbeats 2000000 in
set_option maxRecDepth 100000 in
theorem refSetting_any (f : Nat → Int) (hf : ∀ k, i64ok (f k)) (w : World) : Calls Tryd.prog 11 #[.agg (cfgA f)] w (Ret w (.string ⟨(settingL (cfgL f)).toArray⟩)) := by
  have hB0 : Below w.heap.size w (w.alloc (.cells (cfgA f) 23)) := (Below.refl _ w).alloc (Nat.le_refl _) _
  have hX0 := heap_alloc_new w (.cells (cfgA f) 23)
  have hs0 := World.size_alloc w (.cells (cfgA f) 23)
  have CF := Lib.hid (refFields_any w.heap.size (w.alloc (.cells (cfgA f) 23)))
  unfold FieldsPost at CF
  rw [hs0] at CF
  have HB0 := Lib.hid hB0
  have HX0 := Lib.hid hX0
  have HF := Lib.hid hf
  have HS0 := Lib.hid hs0
  clear hf hB0 hX0 hs0
  go_enter Tryd.func11, Tryd.ntmps11
  go_wp2_with fail
  refine CF.out.mono ?_
  rintro e W1 ⟨rfl, hg1, hb1⟩
  have HX1 := Lib.hid ((hb1.block w.heap.size (by have := HS0.out; omega)).trans HX0.out)
  have HG1 := Lib.hid hg1
  have HB1 := Lib.hid (HB0.out.trans (hb1.mono (by omega)))
  clear hg1 hb1
  go_wp2_with fail
  go_loopw [3, 5] (fun v3 v5 wr => ∃ (k : Nat) (t : ByteArray), k ≤ 18 ∧ v5 = .int .i64 k ∧ v3 = .string t ∧ t.data.toList = wordsL (((cfgL f).take k).map .num) ∧ Below (w.heap.size + 2) W1 wr) (fun _ v5 _ => 18 - (intOf v5).toNat)
  case atStart => exact ⟨0, _, by omega, rfl, rfl, rfl, Below.refl _ _⟩
  case round =>
    obtain ⟨k, t, hk, rfl, rfl, ht, hB⟩ := hrel
    have HT := Lib.hid ht
    have HB := Lib.hid hB
    have hlt : w.heap.size + 1 < W1.heap.size := (Array.getElem?_eq_some_iff.1 HG1.out).1
    clear ht hB
    by_cases hkl : k < 18
    · have hg := (HB.out.block (w.heap.size + 1) (by omega)).trans HG1.out
      have hx := (HB.out.block w.heap.size (by omega)).trans HX1.out
      have c0 : wr.cell? ⟨w.heap.size + 1, k, none⟩ = some (.pointer (some ⟨w.heap.size, k, none⟩)) := by rw [Lib.cell_of_heap hg]; exact ptrs18_get _ _ hkl
      have c1 : wr.cell? ⟨w.heap.size, k, none⟩ = some (.int .i64 (f k)) := by rw [Lib.cell_of_heap hx]; exact cfgA_get f k hkl
      have hki : (k : Int) < 18 := by omega
      obtain ⟨sk, k1, k2, k3⟩ := dec_str (f k) (HF.out k)
      have hts : t.size ≤ 1000 := by
        rw [size_is, HT.out]
        have h1 := words_take ((cfgL f).map .num) k
        have h2 := nums_words_len _ (cfgL_mem f HF.out)
        have h3 : (cfgL f).length = 18 := rfl
        rw [← List.map_take] at h1
        omega
      have CK := Lib.hid k3
      have K1 := Lib.hid k1
      have q1 : ¬ (9223372036854775807 < t.size + sk.size) := by omega
      have q2 : ¬ (9223372036854775807 < t.size + 1) := by omega
      have q3 : ¬ (9223372036854775807 < t.size + 1 + sk.size) := by omega
      clear hg hx k1 k3
      have hsn : ((cfgL f).take (k + 1)).map Wd.num = ((cfgL f).take k).map Wd.num ++ [.num (f k)] := by
        rw [List.take_add_one, cfgL_get f k hkl]; simp
      have HSN := Lib.hid hsn
      clear hsn
      by_cases hk0 : 0 < k
      · have hk0i : (0 : Int) < k := by omega
        go_wp2_with (go_at_call 29; refine (CK.out _).mono ?_; rintro e w2 ⟨rfl, hb2⟩)
        go_roundw
        case rel =>
          refine ⟨k + 1, _, by omega, by go_num, rfl, ?_, HB.out.trans (hb2.mono (Nat.le_trans hlt HB.out.size))⟩
          rw [HSN.out, words_snoc, if_neg (by simp [cfgL]; omega), app_data, app_data, HT.out, K1.out]
          simp [Wd.text]
        case measure => simp [intOf]; omega
      · have hk0i : ¬ (0 : Int) < k := by omega
        have HZ := Lib.hid (show k = 0 by omega)
        clear hk0
        have hk0j : (k : Int) ≤ 0 := by omega
        go_wp2_with (go_at_call 29; refine (CK.out _).mono ?_; rintro e w2 ⟨rfl, hb2⟩)
        go_roundw
        case rel =>
          refine ⟨k + 1, _, by omega, by go_num, rfl, ?_, HB.out.trans (hb2.mono (Nat.le_trans hlt HB.out.size))⟩
          have ht0 := HT.out
          have hz := HZ.out
          rw [hz] at ht0
          rw [HSN.out, hz, app_data, ht0, K1.out, hz]
          rfl
        case measure => simp [intOf]; omega
    · have hkn : ¬ (k : Int) < 18 := by omega
      have h18 : k = 18 := by omega
      have ht0 := HT.out
      rw [h18] at ht0
      have q2 : ¬ (9223372036854775807 < t.size + 1) := by
        rw [size_is, ht0]
        have h2 := nums_words_len _ (cfgL_mem f HF.out)
        have h3 : (cfgL f).length = 18 := rfl
        have h4 : (cfgL f).take 18 = cfgL f := rfl
        rw [h4]; omega
      have HT0 := Lib.hid ht0
      clear ht0
      go_wp2_with fail
      go_ret
      refine ⟨str_is ?_, HB1.out.trans (HB.out.mono (by omega))⟩
      rw [app_data, HT0.out]
      rfl
end Go.Proofs.YtnollfnjidbdcaaDoor.X

/- Setting of package script: a setting as a line. -/
import Derived.Test.YtnollfnjidbdcaaDoorXSet
namespace Go.Proofs.YtnollfnjidbdcaaDoor.X
open Go.RowKit
set_option linter.unusedSimpArgs false
set_option linter.unusedVariables false


theorem info20 : (Tryd.prog.info? 20).map (fun i => (i.zero, i.size, i.bytes)) = some (some .nilIface, 1, 16) := by kernel_rfl
theorem ptrs18_get (X k : Nat) (h : k < 18) : (ptrs18 X)[k]? = some (.pointer (some ⟨X, k, none⟩)) := by
  revert h
  unfold ptrs18
  match k with
  | 0 | 1 | 2 | 3 | 4 | 5 | 6 | 7 | 8 | 9 | 10 | 11 | 12 | 13 | 14 | 15 | 16 | 17 => intro _; rfl
  | k + 18 => intro h; omega
theorem cfgL_get (f : Nat → Int) (k : Nat) (h : k < 18) : (cfgL f)[k]? = some (f k) := by
  revert h
  unfold cfgL
  match k with
  | 0 | 1 | 2 | 3 | 4 | 5 | 6 | 7 | 8 | 9 | 10 | 11 | 12 | 13 | 14 | 15 | 16 | 17 => intro _; rfl
  | k + 18 => intro h; omega
theorem cfgA_get (f : Nat → Int) (k : Nat) (h : k < 18) : (cfgA f)[k]? = some (.int .i64 (f k)) := by
  have := cfgL_get f k h
  rw [cfgA_is]
  simp [this]
def ifs (l : List Int) : List Value := l.map fun n => .iface 3 (.int .i64 n)
theorem text_len (n : Int) (h : i64ok n) : (Wd.num n).text.length ≤ 21 := Lib.itoa_length_le n h.1 h.2
theorem nums_words_len : ∀ l : List Int, (∀ n ∈ l, i64ok n) → (wordsL (l.map .num)).length ≤ 22 * l.length
  | [], _ => by simp [wordsL]
  | [n], h => by have := text_len n (h n (by simp)); simp [wordsL]; omega
  | n :: m :: r, h => by
    have h1 := text_len n (h n (by simp))
    have h2 := nums_words_len (m :: r) (fun x hx => h x (by simp at hx ⊢; exact .inr hx))
    simp only [List.map_cons] at h2 ⊢
    unfold wordsL
    simp only [List.length_append, List.length_cons] at h2 ⊢
    omega
theorem cfgL_mem (f : Nat → Int) (h : ∀ k, i64ok (f k)) : ∀ n ∈ cfgL f, i64ok n := by
  intro n hn
  simp [cfgL] at hn
  rcases hn with rfl | rfl | rfl | rfl | rfl | rfl | rfl | rfl | rfl | rfl | rfl | rfl | rfl | rfl | rfl | rfl | rfl | rfl <;> exact h _
theorem words18 (f : Nat → Int) (h : ∀ k, i64ok (f k)) : (wordsL ((cfgL f).map .num)).length ≤ 35184372088832 := by
  have := nums_words_len _ (cfgL_mem f h)
  have : (cfgL f).length = 18 := rfl
  omega
theorem words_own {f : Nat → Int} {k B : Nat} {w : World} {v : Value} (h : w.ownsRow B 20 1 v k (ifs ((cfgL f).take k))) (hk : k = 18) (hf : ∀ k, i64ok (f k)) : WordsAt w v ((cfgL f).map .num) := by
  subst hk
  obtain ⟨g, cap, cur, rfl, _, _, hc1, hc2, _⟩ : ∃ g cap, ∃ cur : Array Value, v = .slice (some ⟨g, 0, none⟩) 18 cap ∧ B ≤ g ∧ w.heap[g]? = some (.cells cur 20 (0, 0)) ∧ 18 ≤ cap ∧ cap ≤ maxLen ∧ True := by
    rcases h.2 with ⟨_, h0⟩ | ⟨g, cap, cur, h1, h2, h3, h4, h5, _⟩
    · omega
    · exact ⟨g, cap, cur, h1, h2, h3, h4, h5, trivial⟩
  have hl : ((cfgL f).map Wd.num).length = 18 := rfl
  have hcap : 18 ≤ cap ∧ cap ≤ maxLen := ⟨hc1, hc2⟩
  refine ⟨_, cap, by rw [hl], by rw [hl]; exact hcap.1, hcap.2, fun _ => ⟨g, 0, rfl, fun j x hj => ?_⟩⟩
  have hj18 : j < 18 := by
    rcases Nat.lt_or_ge j 18 with h | h
    · exact h
    · rw [List.getElem?_eq_none (by rw [hl]; exact h)] at hj; cases hj
  rw [List.getElem?_map, cfgL_get f j hj18] at hj
  have hj := Option.some.inj hj
  subst hj
  have hc := h.cells rfl j (.iface 3 (.int .i64 (f j))) (by unfold ifs; rw [List.getElem?_map, List.getElem?_take_of_lt hj18, cfgL_get f j hj18]; rfl)
  have hc' : w.cell? ⟨g, 0 + j, none⟩ = some (Value.iface 3 (Value.int IntKind.i64 (f j))) := by
    cases j with
    | zero => simpa [Addr.add] using hc
    | succ j => simpa [Addr.add] using hc
  exact ⟨_, hc', rfl, hf j⟩
set_option maxHeartbeats 2000000 in
set_option maxRecDepth 100000 in
theorem setting_any (f : Nat → Int) (hf : ∀ k, i64ok (f k)) (w : World) (E : Env w) : Calls Tryd.prog 8 #[.agg (cfgA f)] w (Ret w (.string ⟨(settingL (cfgL f)).toArray⟩)) := by
  have hB0 : Below w.heap.size w (w.alloc (.cells (cfgA f) 23)) := (Below.refl _ w).alloc (Nat.le_refl _) _
  have hX0 := heap_alloc_new w (.cells (cfgA f) 23)
  have hs0 := World.size_alloc w (.cells (cfgA f) 23)
  have CF := Lib.hid (fields_any w.heap.size (w.alloc (.cells (cfgA f) 23)))
  unfold FieldsPost at CF
  rw [hs0] at CF
  have HB0 := Lib.hid hB0
  have HX0 := Lib.hid hX0
  have EN := Lib.hid E
  have HF := Lib.hid hf
  have HS0 := Lib.hid hs0
  obtain ⟨i0, hi, hz0, hz1, hz2⟩ := info_parts info20
  clear E hf hB0 hX0 hs0
  go_enter Tryd.func8, Tryd.ntmps8
  go_wp2_with fail
  refine CF.out.mono ?_
  rintro e W1 ⟨rfl, hg1, hb1⟩
  have HX1 := Lib.hid ((hb1.block w.heap.size (by have := HS0.out; omega)).trans HX0.out)
  have HG1 := Lib.hid hg1
  have HB1 := Lib.hid (HB0.out.trans (hb1.mono (by omega)))
  clear hg1 hb1
  go_wp2_with fail
  go_loopw [3, 5, 8] (fun v3 _ v8 wr => ∃ k : Nat, k ≤ 18 ∧ v8 = .int .i64 k ∧ wr.ownsRow (w.heap.size + 2) 20 1 v3 k (ifs ((cfgL f).take k)) ∧ Below (w.heap.size + 2) W1 wr) (fun _ _ v8 _ => 18 - (intOf v8).toNat)
  case atStart => exact ⟨0, by omega, rfl, World.ownsRow_nil _ _ _ _, Below.refl _ _⟩
  case round =>
    obtain ⟨k, hk, rfl, hO, hB⟩ := hrel
    have HO := Lib.hid hO
    have HB := Lib.hid hB
    clear hO hB
    by_cases hkl : k < 18
    · have hg := (HB.out.block (w.heap.size + 1) (by omega)).trans HG1.out
      have hx := (HB.out.block w.heap.size (by omega)).trans HX1.out
      have c0 : wr.cell? ⟨w.heap.size + 1, k, none⟩ = some (.pointer (some ⟨w.heap.size, k, none⟩)) := by rw [Lib.cell_of_heap hg]; exact ptrs18_get _ _ hkl
      have c1 : wr.cell? ⟨w.heap.size, k, none⟩ = some (.int .i64 (f k)) := by rw [Lib.cell_of_heap hx]; exact cfgA_get f k hkl
      have hki : (k : Int) < 18 := by omega
      clear hg hx
      have hW1 : w.heap.size + 2 ≤ wr.heap.size := Nat.le_trans (Array.getElem?_eq_some_iff.1 HG1.out).1 HB.out.size
      go_wp2_with (at_builtin; refine wpList_append_own _ rfl _ _ 44 rfl (w.heap.size + 2) 20 i0 .nilIface 1 16 Tryd.underlying44 hi hz0 hz1 hz2 rfl (by decide) _ _ _ rfl (HO.out.alloc _) ⟨wr.heap.size, 0, none⟩ 1 1 [.iface 3 (.int .i64 (f k))] rfl rfl (cell_new1 _ _ _) (by simp [Value.oneCell']) (by unfold maxLen; omega) (by omega) (by simp; omega) ?_; intro v' w3 hown' hgrow _; have HO3 := Lib.hid hown'; have HG3 := Lib.hid hgrow; clear hown' hgrow)
      go_roundw
      case rel =>
        refine ⟨k + 1, by omega, by go_num, ?_, ?_⟩
        · have h := HO3.out
          rw [List.take_add_one, cfgL_get f k hkl, Option.toList_some]
          unfold ifs at h ⊢
          rw [List.map_append]
          exact h
        · exact (HB.out.alloc (Nat.le_trans hW1 (Nat.le_refl _)) _).grown HG3.out (by simp; omega) (fun q hq => (ownsRow_lo HO.out q hq))
      case measure => simp [intOf]; omega
    · have hkn : ¬ (k : Int) < 18 := by omega
      have hW := words_own HO.out (by omega) HF.out
      go_wp2_with fail
      refine (line_any _ _ (words18 f HF.out) _ (EN.out.below (HB1.out.trans (HB.out.mono (by omega))) EN.out.gl) hW).mono ?_
      rintro e W2 ⟨rfl, hb2⟩
      go_wp2_with fail
      go_ret
      exact ⟨rfl, (HB1.out.trans (HB.out.mono (by omega))).trans (hb2.mono (by have := HB.out.size; have := HB1.out.size; omega))⟩
end Go.Proofs.YtnollfnjidbdcaaDoor.X

/- answers of the law's package: what a program that does nothing does not answer: true. -/
import Derived.Test.YtnollfnjidbdcaaDoorXParse
import Derived.Test.YtnollfnjidbdcaaDoorXSetEnd
import Derived.Test.YtnollfnjidbdcaaDoorXLaws
import Derived.RegionTactic
import Derived.Lib.SlBytesConst
namespace Go.Proofs.YtnollfnjidbdcaaDoor.X
open Go.RowKit
set_option linter.unusedSimpArgs false
set_option linter.unusedVariables false

def x0 : St := ⟨2, -5, 0, [97]⟩
def lit0 : List UInt8 := [50, 32, 45, 53, 32, 48, 32, 120, 54, 49, 10]
def f0 : Nat → Int
  | 0 => 3
  | 17 => 9
  | _ => 0
theorem x0_ok : x0.ok := by unfold St.ok x0; simp
theorem print0 : printL [x0] = lit0 := by
  have h2 : Lib.itoa 2 = [50] := by unfold Lib.itoa; rw [if_neg (by decide)]; exact Lib.decDigits_one (by decide)
  have h5 : Lib.itoa (-5) = [45, 53] := by unfold Lib.itoa; rw [if_pos (by decide)]; exact congrArg _ (Lib.decDigits_one (by decide))
  have h0 : Lib.itoa 0 = [48] := by unfold Lib.itoa; rw [if_neg (by decide)]; exact Lib.decDigits_one (by decide)
  simp [printL, x0, lineL, St.words, wordsL, Wd.text, h2, h5, h0, hexL, dgs, lit0]
theorem parse0 : parseL lit0 = ([x0], 0, 0) := by rw [← print0]; exact parseL_print _ (by simp; exact x0_ok)
theorem parse1 : parseL [49, 32, 50, 32, 51, 10] = ([], 1, 8) := by
  have h1 : linesL [49, 32, 50, 32, 51, 10] = [[49, 32, 50, 32, 51, 10]] := by decide
  have h2 : stepOf [49, 32, 50, 32, 51, 10] = none := by
    have e : ([49, 32, 50, 32, 51, 10] : List UInt8) = [49, 32, 50, 32, 51] ++ [10] := rfl
    unfold stepOf
    rw [e, suffix_end, if_pos rfl, trim_end]
    exact one_noBytes (by decide)
  unfold parseL
  rw [h1, parseGo, h2]
  rfl
theorem f0_ok (k : Nat) : i64ok (f0 k) := by unfold f0; split <;> simp [i64ok]
theorem set0 : setL (settingL (cfgL f0)) = some (cfgL f0) := setL_setting _ rfl (cfgL_mem f0 f0_ok)
theorem setting_le (f : Nat → Int) (hf : ∀ k, i64ok (f k)) : (ByteArray.mk (settingL (cfgL f)).toArray).size ≤ 1000000 := by
  have h := nums_words_len _ (cfgL_mem f hf)
  have h18 : (cfgL f).length = 18 := rfl
  rw [size_is]
  simp [settingL, lineL]
  omega
theorem bytes_new (W : World) (t : TypeId) (fr : Nat × Nat) (c : UInt8) : BytesAt (W.alloc (.cells #[.int .u8 c.toNat] t fr)) (.slice (some ⟨W.heap.size, 0, none⟩) 1 1) [c] := by
  refine ⟨_, _, rfl, Nat.le_refl _, by unfold maxLen; simp, fun _ => ⟨W.heap.size, 0, rfl, fun j y hj => ?_⟩⟩
  have hb := heap_alloc_new W (.cells #[.int .u8 c.toNat] t fr)
  rw [Nat.zero_add, Lib.cell_of_heap hb]
  match j, hj with
  | 0, hj => simp at hj; subst hj; rfl
theorem step_new (W : World) (v : Value) (hv : BytesAt W v [97]) : StepsAt (W.alloc (.cells #[.int .i64 2, .int .i64 (-5), .int .i64 0, v] 39)) (.slice (some ⟨W.heap.size, 0, none⟩) 1 1) [x0] := by
  refine ⟨_, _, rfl, Nat.le_refl _, by unfold maxLen; simp, fun _ => ⟨W.heap.size, 0, rfl, fun j y hj => ?_⟩⟩
  have hb := heap_alloc_new W (.cells #[.int .i64 2, .int .i64 (-5), .int .i64 0, v] 39)
  match j, hj with
  | 0, hj =>
    simp at hj; subst hj
    exact ⟨by rw [Lib.cell_of_heap hb]; rfl, by rw [Lib.cell_of_heap hb]; rfl, by rw [Lib.cell_of_heap hb]; rfl, ⟨v, by rw [Lib.cell_of_heap hb]; rfl, hv.below (B := 0) ((Below.refl _ _).alloc (Nat.le_refl _) _)⟩, x0_ok⟩

set_option maxHeartbeats 2000000 in
set_option maxRecDepth 100000 in
theorem answers_any (w : World) (E : Env w) : Calls Tryd.prog 7 #[] w (Ret w (.bool true)) := by
  have EN := Lib.hid E
  clear E
  have kc := fun (w : World) (C : Array Value) (n c : Nat) => Lib.run_convert_bytes_const (P := Tryd.prog) w 37 5 C n c Tryd.underlying37 Tryd.underlying5
  go_enter Tryd.func7, Tryd.ntmps7
  go_wp2_with fail
  have hB2 : Below w.heap.size w ((w.alloc (.cells #[.int .u8 97] 5 (1, 2))).alloc (.cells #[.int .i64 2, .int .i64 (-5), .int .i64 0, .slice (some ⟨w.heap.size, 0, none⟩) 1 1] 39)) := ((Below.refl _ w).alloc (Nat.le_refl _) _).alloc (by simp) _
  have hS := step_new (w.alloc (.cells #[.int .u8 97] 5 (1, 2))) _ (bytes_new w 5 (1, 2) 97)
  rw [World.size_alloc] at hS
  have CP := print_any _ [x0] (by rw [print0]; decide) _ (EN.out.below hB2 EN.out.gl) hS
  rw [print0] at CP
  refine CP.mono ?_
  rintro e W1 ⟨rfl, hb1⟩
  have hB1 := hB2.trans (hb1.mono hB2.size)
  have C2 := parse_any ⟨lit0.toArray⟩ (by decide) W1 (EN.out.below hB1 EN.out.gl)
  unfold ParsePost at C2
  rw [show (ByteArray.mk lit0.toArray).data.toList = lit0 from rfl, parse0] at C2
  have HB1 := Lib.hid hB1
  have HC2 := Lib.hid C2
  clear hB1 hB2 hS CP hb1 C2
  go_wp2_with fail
  refine HC2.out.mono ?_
  rintro e W2 ⟨hb2, v2, rfl, hst⟩
  have HB2 := Lib.hid (HB1.out.trans (hb2.mono HB1.out.size))
  have HST := Lib.hid hst
  clear hb2 hst
  go_wp2_with fail
  have hf0 : cfgA f0 = #[.int .i64 3, .int .i64 0, .int .i64 0, .int .i64 0, .int .i64 0, .int .i64 0, .int .i64 0, .int .i64 0, .int .i64 0, .int .i64 0, .int .i64 0, .int .i64 0, .int .i64 0, .int .i64 0, .int .i64 0, .int .i64 0, .int .i64 0, .int .i64 9] := rfl
  rw [← hf0]
  have HF0 := Lib.hid hf0
  refine (setting_any f0 f0_ok W2 (EN.out.below HB2.out EN.out.gl)).mono ?_
  rintro e W3 ⟨rfl, hb3⟩
  have HB3 := Lib.hid (HB2.out.trans (hb3.mono HB2.out.size))
  have HS3 := Lib.hid (HST.out.below hb3)
  clear hb3 hf0
  have CT := set_any ⟨(settingL (cfgL f0)).toArray⟩ (setting_le f0 f0_ok) W3 (EN.out.below HB3.out EN.out.gl)
  unfold SetPost at CT
  rw [show (ByteArray.mk (settingL (cfgL f0)).toArray).data.toList = settingL (cfgL f0) from rfl, set0] at CT
  have HCT := Lib.hid CT
  clear CT
  go_wp2_with fail
  refine HCT.out.mono ?_
  rintro e W4 ⟨hb4, f, hf, _, rfl⟩
  have hfa : cfgA f = cfgA f0 := by rw [cfgA_is, cfgA_is, hf]
  rw [hfa]
  have HB4 := Lib.hid (HB3.out.trans (hb4.mono HB3.out.size))
  have HS4 := Lib.hid (HS3.out.below hb4)
  clear hb4 hf hfa
  obtain ⟨A0, hA0⟩ : ∃ A0, cfgA f0 = A0 := ⟨_, rfl⟩
  have hA1 : A0.size = 18 := by rw [← hA0]; rfl
  have hA2 : A0.all (·.oneCell') = true := by rw [← hA0]; exact cfgA_one f0
  have ha0 : A0[0]? = some (.int .i64 3) := by rw [← hA0]; rfl
  have ha17 : A0[17]? = some (.int .i64 9) := by rw [← hA0]; rfl
  rw [hA0]
  have HA1 := Lib.hid hA1
  have HA2 := Lib.hid hA2
  have HA0 := Lib.hid ha0
  have HA17 := Lib.hid ha17
  clear hA0 hA1 hA2 ha0 ha17
  go_wp2_with (refine wpList_store23 rfl (.tmp 5) (.tmp 25) rfl W4.heap.size rfl A0 rfl zs18 (heap_alloc_new _ _) HA1.out.symm HA1.out HA2.out ?_)
  have hX5 := setRow_heap (W4.alloc (.cells zs18 23)) W4.heap.size zs18 A0 23 (0, 0) (heap_alloc_new _ _)
  have hb5 : Below W4.heap.size W4 ((W4.alloc (.cells zs18 23)).setRow W4.heap.size A0) := below_setRow ((Below.refl _ W4).alloc (Nat.le_refl _) _) (Nat.le_refl _) _
  obtain ⟨W5, hW5⟩ : ∃ W5, (W4.alloc (.cells zs18 23)).setRow W4.heap.size A0 = W5 := ⟨_, rfl⟩
  rw [hW5] at hX5 hb5
  unfold zs18 at hW5
  rw [hW5]
  have HX5 := Lib.hid hX5
  have HB5 := Lib.hid (HB4.out.trans (hb5.mono HB4.out.size))
  have HS5 := Lib.hid (HS4.out.below hb5)
  clear hW5 hX5 hb5
  have C2 := parse_any ⟨#[49, 32, 50, 32, 51, 10]⟩ (by decide) W5 (EN.out.below HB5.out EN.out.gl)
  unfold ParsePost at C2
  rw [show (ByteArray.mk #[49, 32, 50, 32, 51, 10]).data.toList = [49, 32, 50, 32, 51, 10] from rfl, parse1] at C2
  refine C2.mono ?_
  rintro e W6 ⟨hb6, v6, rfl, _⟩
  have HX6 := Lib.hid ((hb6.block _ (Array.getElem?_eq_some_iff.1 HX5.out).1).trans HX5.out)
  have HB6 := Lib.hid (HB5.out.trans (hb6.mono HB5.out.size))
  have HS6 := Lib.hid (HS5.out.below hb6)
  clear hb6 C2
  obtain ⟨vp, vc, rfl, h1, h2, h3⟩ := HS6.out
  obtain ⟨b, off, rfl, h4⟩ := h3 (by simp)
  have cA := (h4 0 x0 rfl).ca
  have c0 : W6.cell? ⟨W4.heap.size, 0, none⟩ = some (.int .i64 3) := by rw [Lib.cell_of_heap HX6.out]; exact HA0.out
  have c17 : W6.cell? ⟨W4.heap.size, 17, none⟩ = some (.int .i64 9) := by rw [Lib.cell_of_heap HX6.out]; exact HA17.out
  simp only [x0, Nat.zero_mul, Nat.add_zero] at cA
  simp only [List.length_cons, List.length_nil, Nat.zero_add] at h1
  unfold maxLen at h2
  clear h3 h4
  unfold lit0
  go_wp2_with fail
  have hH := hex_any _ [16] (by decide) _ (bytes_new W6 5 (0, 0) 16)
  rw [show hexL [16] = [49, 48] by decide] at hH
  refine hH.mono ?_
  rintro e W7 ⟨rfl, hb7⟩
  go_wp2_with fail
  go_ret
  have hb := (Below.refl W6.heap.size W6).alloc (Nat.le_refl _) (.cells #[.int .u8 (16 : UInt8).toNat] 5)
  exact ⟨rfl, (HB6.out.trans (hb.mono HB6.out.size)).trans (hb7.mono (Nat.le_trans HB6.out.size hb.size))⟩
end Go.Proofs.YtnollfnjidbdcaaDoor.X

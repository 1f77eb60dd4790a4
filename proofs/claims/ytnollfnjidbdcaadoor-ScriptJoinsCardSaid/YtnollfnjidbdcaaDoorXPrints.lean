/- ScriptPrints: the law's function. -/
import Derived.Test.YtnollfnjidbdcaaDoorXLight
import Derived.Test.YtnollfnjidbdcaaDoorXAns
namespace Go.Proofs.YtnollfnjidbdcaaDoor.X
open Go.RowKit
set_option linter.unusedSimpArgs false
set_option linter.unusedVariables false

theorem line_len (x : St) (h : i64ok x.k ∧ i64ok x.a ∧ i64ok x.b) : (lineL x.words).length ≤ 2 * x.d.length + 68 := by
  have h1 := Lib.itoa_length_le x.k h.1.1 h.1.2
  have h2 := Lib.itoa_length_le x.a h.2.1.1 h.2.1.2
  have h3 := Lib.itoa_length_le x.b h.2.2.1 h.2.2.2
  simp [lineL, St.words, wordsL, Wd.text, hexL_length]
  omega
theorem print_len : ∀ (xs : List St), (∀ x ∈ xs, i64ok x.k ∧ i64ok x.a ∧ i64ok x.b) → (printL xs).length ≤ 2 * total xs + 68 * xs.length
  | [], _ => by simp [printL, total]
  | x :: r, h => by
    have h1 := line_len x (h x (by simp))
    have h2 := print_len r (fun y hy => h y (by simp [hy]))
    have e : printL (x :: r) = lineL x.words ++ printL r := rfl
    rw [e, List.length_append]
    simp only [total, List.map_cons, List.sum_cons, List.length_cons] at h2 ⊢
    omega
theorem light_print (xs : List St) (h : ∀ x ∈ xs, i64ok x.k ∧ i64ok x.a ∧ i64ok x.b) (hl : lightB xs = true) : (printL xs).length ≤ 100000 := by
  have := print_len xs h
  simp [lightB] at hl
  omega

set_option maxHeartbeats 2000000 in
set_option maxRecDepth 100000 in
theorem prints_any (v : Value) (xs : List St) (hd : ∀ x ∈ xs, x.d.length ≤ 140737488355328) (hok : ∀ x ∈ xs, i64ok x.k ∧ i64ok x.a ∧ i64ok x.b) (w : World) (E : Env w) (h : StepsAt w v xs) : Calls Tryd.prog 5 #[v] w (Ret w (.bool true)) := by
  have CL := light_any v xs hd w h
  have EN := Lib.hid E
  have HH := Lib.hid h
  clear E
  cases hl : lightB xs with
  | false =>
    rw [hl] at CL
    have HCL := Lib.hid CL
    clear CL h
    go_enter Tryd.func5, Tryd.ntmps5
    go_wp2_with fail
    refine HCL.out.mono ?_
    rintro e w1 ⟨rfl, hb1⟩
    go_wp2_with fail
    refine (answers_any w1 (EN.out.below hb1 EN.out.gl)).mono ?_
    rintro e w2 ⟨rfl, hb2⟩
    go_wp2_with fail
    go_ret
    exact ⟨rfl, hb1.trans (hb2.mono hb1.size)⟩
  | true =>
    rw [hl] at CL
    have hpl := light_print xs hok hl
    have HCL := Lib.hid CL
    clear CL h
    go_enter Tryd.func5, Tryd.ntmps5
    go_wp2_with fail
    refine HCL.out.mono ?_
    rintro e w1 ⟨rfl, hb1⟩
    have HB1 := Lib.hid hb1
    clear hb1
    go_wp2_with fail
    refine (print_any v xs (by omega) w1 (EN.out.below HB1.out EN.out.gl) (HH.out.below HB1.out)).mono ?_
    rintro e w2 ⟨rfl, hb2⟩
    have HB2 := Lib.hid (HB1.out.trans (hb2.mono HB1.out.size))
    clear hb2
    obtain ⟨s, hs⟩ : ∃ s : ByteArray, ⟨(printL xs).toArray⟩ = s := ⟨_, rfl⟩
    have hsd : s.data.toList = printL xs := by rw [← hs]
    have hsz : s.size ≤ 1000000 := by rw [size_is, hsd]; omega
    rw [hs]
    have HS := Lib.hid hs
    clear hs
    have CP := parse_any s hsz w2 (EN.out.below HB2.out EN.out.gl)
    unfold ParsePost at CP
    rw [hsd, parseL_print xs (fun x hx => hok x hx)] at CP
    have HCP := Lib.hid CP
    clear CP hsd hsz
    go_wp2_with fail
    refine HCP.out.mono ?_
    rintro e w3 ⟨hb3, u, rfl, hst⟩
    have HB3 := Lib.hid (HB2.out.trans (hb3.mono HB2.out.size))
    have HU := Lib.hid hst
    clear hb3 hst
    go_wp2_with fail
    refine (answers_any w3 (EN.out.below HB3.out EN.out.gl)).mono ?_
    rintro e w4 ⟨rfl, hb4⟩
    have HB4 := Lib.hid (HB3.out.trans (hb4.mono HB3.out.size))
    have HU4 := Lib.hid (HU.out.below hb4)
    clear hb4
    have CR := refPrint_any v xs (by omega) w4 (HH.out.below HB4.out)
    rw [HS.out] at CR
    have HCR := Lib.hid CR
    clear CR
    go_wp2_with (go_at_call 19; refine HCR.out.mono ?_; rintro e w5 ⟨rfl, hb5⟩; have HB5 := Lib.hid (HB4.out.trans (hb5.mono HB4.out.size)); have HU5 := Lib.hid (HU4.out.below hb5); clear hb5)
    refine (same_any u v xs _ HU5.out (HH.out.below HB5.out)).mono ?_
    rintro e w6 ⟨rfl, hb6⟩
    have HB6 := Lib.hid (HB5.out.trans (hb6.mono HB5.out.size))
    clear hb6
    go_wp2_with fail
    go_ret
    exact ⟨rfl, HB6.out⟩
end Go.Proofs.YtnollfnjidbdcaaDoor.X

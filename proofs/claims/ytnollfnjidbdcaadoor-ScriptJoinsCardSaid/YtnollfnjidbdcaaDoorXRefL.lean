/- The reference's Line and Print. -/
import Derived.Test.YtnollfnjidbdcaaDoorXRefD
import Derived.Deep.RegionHeld3
import Derived.Test.YtnollfnjidbdcaaDoorXOne
namespace Go.Proofs.YtnollfnjidbdcaaDoor.X
open Go.RowKit
set_option linter.unusedSimpArgs false
set_option linter.unusedVariables false

theorem four_below {W W' : World} {b : Nat} {p q r s : Value} (h : W.cell? ⟨b, 0, none⟩ = some p ∧ W.cell? ⟨b, 1, none⟩ = some q ∧ W.cell? ⟨b, 2, none⟩ = some r ∧ W.cell? ⟨b, 3, none⟩ = some s) (hb : Below W.heap.size W W') :
    W'.cell? ⟨b, 0, none⟩ = some p ∧ W'.cell? ⟨b, 1, none⟩ = some q ∧ W'.cell? ⟨b, 2, none⟩ = some r ∧ W'.cell? ⟨b, 3, none⟩ = some s :=
  ⟨cell_below h.1 hb, cell_below h.2.1 hb, cell_below h.2.2.1 hb, cell_below h.2.2.2 hb⟩
theorem dec_str (n : Int) (h : i64ok n) : ∃ s : ByteArray, s.data.toList = Lib.itoa n ∧ s.size ≤ 21 ∧ ∀ w, Calls Tryd.prog 29 #[.int .i64 n] w (Ret w (.string s)) :=
  ⟨⟨(Lib.itoa n).toArray⟩, rfl, by rw [size_is]; exact Lib.itoa_length_le n h.1 h.2, fun w => refDec_any n h w⟩
theorem hex_str (l : List UInt8) (v : Value) (h : l.length ≤ 17592186044416) : ∃ s : ByteArray, s.data.toList = hexL l ∧ s.size ≤ 35184372088832 ∧ ∀ w, BytesAt w v l → Calls Tryd.prog 17 #[v] w (Ret w (.string s)) :=
  ⟨⟨(hexL l).toArray⟩, rfl, by rw [size_is]; show (hexL l).length ≤ _; rw [hexL_length]; omega, fun w hv => refHex_any v l (by omega) w hv⟩

set_option maxHeartbeats 2000000 in
set_option maxRecDepth 100000 in
theorem refLine_any (x : St) (v : Value) (hl : x.d.length ≤ 17592186044416) (w : World) (hv : BytesAt w v x.d) (hok : i64ok x.k ∧ i64ok x.a ∧ i64ok x.b) :
    Calls Tryd.prog 36 #[.agg #[.int .i64 x.k, .int .i64 x.a, .int .i64 x.b, v]] w (Ret w (.string ⟨(lineL x.words).toArray⟩)) := by
  obtain ⟨p, c, rfl⟩ := hv.shape
  obtain ⟨sk, k1, k2, k3⟩ := dec_str x.k hok.1
  obtain ⟨sa, a1, a2, a3⟩ := dec_str x.a hok.2.1
  obtain ⟨sb, b1, b2, b3⟩ := dec_str x.b hok.2.2
  obtain ⟨sd, d1, d2, d3⟩ := hex_str x.d (.slice p x.d.length c) hl
  have hB0 : Below w.heap.size w (w.alloc (.cells #[.int .i64 x.k, .int .i64 x.a, .int .i64 x.b, .slice p x.d.length c] 39)) := (Below.refl _ w).alloc (Nat.le_refl _) _
  have hX0 := heap_alloc_new w (.cells #[.int .i64 x.k, .int .i64 x.a, .int .i64 x.b, .slice p x.d.length c] 39)
  have hv0 := hv.below (B := 0) hB0
  have hs0 : w.heap.size < (w.alloc (.cells #[.int .i64 x.k, .int .i64 x.a, .int .i64 x.b, .slice p x.d.length c] 39)).heap.size := by simp
  go_enter Tryd.func36, Tryd.ntmps36
  go_wp2_with fail
  obtain ⟨W0, hW0⟩ : ∃ W0, w.alloc (.cells #[.int .i64 x.k, .int .i64 x.a, .int .i64 x.b, .slice p x.d.length c] 39) = W0 := ⟨_, rfl⟩
  rw [hW0] at hB0 hX0 hv0 hs0 ⊢
  have KX0 := Lib.hid hX0
  have KB0 := Lib.hid hB0
  have KV0 := Lib.hid hv0
  have CK := Lib.hid (k3 W0.drew)
  have CA := Lib.hid a3
  have CB := Lib.hid b3
  have CD := Lib.hid d3
  have K1 := Lib.hid k1
  have A1 := Lib.hid a1
  have B1 := Lib.hid b1
  have D1 := Lib.hid d1
  have KS0 := Lib.hid (show W0.cell? ⟨w.heap.size, 0, none⟩ = some (.int .i64 x.k) ∧ W0.cell? ⟨w.heap.size, 1, none⟩ = some (.int .i64 x.a) ∧ W0.cell? ⟨w.heap.size, 2, none⟩ = some (.int .i64 x.b) ∧ W0.cell? ⟨w.heap.size, 3, none⟩ = some (.slice p x.d.length c) from ⟨at4 hX0 0 rfl, at4 hX0 1 rfl, at4 hX0 2 rfl, at4 hX0 3 rfl⟩)
  have q1 : ¬ (9223372036854775807 < sk.size + 1) := by omega
  have q2 : ¬ (9223372036854775807 < sk.size + 1 + sa.size) := by omega
  have q3 : ¬ (9223372036854775807 < sk.size + 1 + sa.size + 1) := by omega
  have q4 : ¬ (9223372036854775807 < sk.size + 1 + sa.size + 1 + sb.size) := by omega
  have q5 : ¬ (9223372036854775807 < sk.size + 1 + sa.size + 1 + sb.size + 2) := by omega
  have q6 : ¬ (9223372036854775807 < sk.size + 1 + sa.size + 1 + sb.size + 2 + sd.size) := by omega
  have q7 : ¬ (9223372036854775807 < sk.size + 1 + sa.size + 1 + sb.size + 2 + sd.size + 1) := by omega
  have z1 : (ByteArray.mk #[32]).size = 1 := rfl
  have z2 : (ByteArray.mk #[32, 120]).size = 2 := rfl
  have z3 : (ByteArray.mk #[10]).size = 1 := rfl
  have KSD := Lib.hid (show W0.drew.cell? ⟨w.heap.size, 0, none⟩ = some (.int .i64 x.k) ∧ W0.drew.cell? ⟨w.heap.size, 1, none⟩ = some (.int .i64 x.a) ∧ W0.drew.cell? ⟨w.heap.size, 2, none⟩ = some (.int .i64 x.b) ∧ W0.drew.cell? ⟨w.heap.size, 3, none⟩ = some (.slice p x.d.length c) from KS0.out)
  clear hW0 hB0 hX0 hv0 k3 a3 b3 d3 k1 a1 b1 d1 hv hok
  go_region_held3 (fun w' => w'.cell? ⟨w.heap.size, 0, none⟩ = some (.int .i64 x.k) ∧ w'.cell? ⟨w.heap.size, 1, none⟩ = some (.int .i64 x.a) ∧ w'.cell? ⟨w.heap.size, 2, none⟩ = some (.int .i64 x.b) ∧ w'.cell? ⟨w.heap.size, 3, none⟩ = some (.slice p x.d.length c)) (first | with_reducible exact KSD.out | with_reducible exact KS4.out | with_reducible exact KS3.out | with_reducible exact KS2.out | with_reducible exact KS1.out | with_reducible exact KS0.out) (first
    | (go_at_call 29; refine CK.out.mono ?_; clear CK; rintro e w1 ⟨rfl, hb1⟩; have KS1 := Lib.hid (four_below (W := W0.drew) KS0.out hb1); have KH1 := Lib.hid (KB0.out.drew.trans (hb1.mono KB0.out.size)); have KV1 := Lib.hid (BytesAt.below (w := W0.drew) (B := 0) KV0.out hb1); have CA1 := Lib.hid (CA.out w1); clear hb1 CA)
    | (go_at_call 29; refine CA1.out.mono ?_; clear CA1; rintro e w2 ⟨rfl, hb2⟩; have KS2 := Lib.hid (four_below KS1.out hb2); have KH2 := Lib.hid (KH1.out.trans (hb2.mono KH1.out.size)); have KV2 := Lib.hid (KV1.out.below (B := 0) hb2); have CB1 := Lib.hid (CB.out w2); clear hb2 CB)
    | (go_at_call 29; refine CB1.out.mono ?_; clear CB1; rintro e w3 ⟨rfl, hb3⟩; have KS3 := Lib.hid (four_below KS2.out hb3); have KH3 := Lib.hid (KH2.out.trans (hb3.mono KH2.out.size)); have KV3 := Lib.hid (KV2.out.below (B := 0) hb3); have CD1 := Lib.hid (CD.out w3 KV3.out); clear hb3 CD)
    | (go_at_call 17; refine CD1.out.mono ?_; clear CD1; rintro e w4 ⟨rfl, hb4⟩; have KS4 := Lib.hid (four_below KS3.out hb4); have KH4 := Lib.hid (KH3.out.trans (hb4.mono KH3.out.size)); clear hb4))
  all_goals go_wp2_with fail
  all_goals go_ret
  all_goals (refine ⟨str_is ?_, KH4.out⟩; simp only [app_data, K1.out, A1.out, B1.out, D1.out]; simp [lineL, St.words, wordsL, Wd.text])

set_option maxHeartbeats 2000000 in
set_option maxRecDepth 100000 in
theorem refPrint_any (v : Value) (xs : List St) (hl : (printL xs).length ≤ 17592186044416) (w : World) (h : StepsAt w v xs) :
    Calls Tryd.prog 19 #[v] w (Ret w (.string ⟨(printL xs).toArray⟩)) := by
  obtain ⟨p, c, rfl, h1, h2, h3⟩ := h
  unfold maxLen at h2
  have H3 := Lib.hid h3
  clear h3
  go_enter Tryd.func19, Tryd.ntmps19
  go_wp2_with fail
  go_loopw [3, 4] (fun v3 v4 wr => ∃ (k : Nat) (t : ByteArray), k ≤ xs.length ∧ v4 = .int .i64 k ∧ v3 = .string t ∧ t.data.toList = printL (xs.take k) ∧ Below w.heap.size w wr) (fun _ v4 _ => xs.length - (intOf v4).toNat)
  case atStart => exact ⟨0, _, by omega, rfl, rfl, rfl, Below.refl _ _⟩
  case round =>
    obtain ⟨k, t, hk, rfl, rfl, ht, hB⟩ := hrel
    by_cases hkl : k < xs.length
    · obtain ⟨b, off, hp, hc⟩ := H3.out (by omega)
      obtain ⟨x, hx⟩ : ∃ x, xs[k]? = some x := ⟨xs[k], List.getElem?_eq_getElem hkl⟩
      have hst := (hc k x hx).below hB
      have hkli : (k : Int) < xs.length := by omega
      subst hp
      have c0 := hst.ck
      have c1 := hst.ca
      have c2 := hst.cb
      obtain ⟨vd, c3, hvd⟩ := hst.cd
      have hok := hst.ok
      have hpl := printL_take xs (k + 1)
      rw [List.take_add_one, hx, Option.toList_some, printL_snoc, List.length_append] at hpl
      have hll : (lineL x.words).length ≤ 17592186044416 := by omega
      have hdl : x.d.length ≤ 17592186044416 := by
        have e : (lineL x.words).length = (Lib.itoa x.k).length + (Lib.itoa x.a).length + (Lib.itoa x.b).length + 2 * x.d.length + 5 := by
          simp [lineL, St.words, wordsL, Wd.text, hexL_length]; omega
        omega
      have hts : t.size ≤ 17592186044416 := by
        rw [size_is, ht]; omega
      obtain ⟨sl, s1, s2, s3⟩ : ∃ s : ByteArray, s.data.toList = lineL x.words ∧ s.size ≤ 17592186044416 ∧ ∀ w', BytesAt w' vd x.d → Calls Tryd.prog 36 #[.agg #[.int .i64 x.k, .int .i64 x.a, .int .i64 x.b, vd]] w' (Ret w' (.string s)) :=
        ⟨⟨(lineL x.words).toArray⟩, rfl, by rw [size_is]; exact hll, fun w' hv => refLine_any x vd hdl w' hv hok⟩
      have CL := Lib.hid (s3 wr hvd)
      have HX := Lib.hid hx
      have HT := Lib.hid ht
      have HB := Lib.hid hB
      have HS := Lib.hid s1
      have q1 : ¬ (9223372036854775807 < t.size + sl.size) := by omega
      obtain ⟨pd, cd, rfl⟩ := hvd.shape
      clear hc hx hst hvd hok hpl hB ht s1 s3
      go_wp2_with (go_at_call 36; refine CL.out.mono ?_; rintro e w2 ⟨rfl, hb2⟩)
      go_roundw
      case rel =>
        refine ⟨k + 1, _, by omega, by go_num, rfl, ?_, HB.out.trans (hb2.mono HB.out.size)⟩
        rw [List.take_add_one, HX.out, Option.toList_some, printL_snoc, app_data, HT.out, HS.out]
      case measure => simp [intOf]; omega
    · have hkn : ¬ (k : Int) < xs.length := by omega
      rw [List.take_of_length_le (by omega)] at ht
      go_wp2_with fail
      go_ret
      exact ⟨str_is ht, hB⟩
end Go.Proofs.YtnollfnjidbdcaaDoor.X
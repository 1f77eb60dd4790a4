/- ScriptJoins: the law's function. -/
import Derived.Test.YtnollfnjidbdcaaDoorXPrints
import Derived.Test.YtnollfnjidbdcaaDoorXReads
import Derived.Test.YtnollfnjidbdcaaDoorXRefU
import Derived.Test.YtnollfnjidbdcaaDoorXJoinKit
namespace Go.Proofs.YtnollfnjidbdcaaDoor.X
open Go.RowKit
set_option linter.unusedSimpArgs false
set_option linter.unusedVariables false

set_option maxHeartbeats 2000000 in
set_option maxRecDepth 100000 in
theorem joins_heavy (va vb : Value) (xs ys : List St) (hda : ∀ x ∈ xs, x.d.length ≤ 140737488355328) (hdb : ∀ x ∈ ys, x.d.length ≤ 140737488355328) (s : ByteArray) (hs : s.size ≤ 9223372036854775807) (w : World) (E : Env w) (ha : StepsAt w va xs) (hb : StepsAt w vb ys)
    (hl : lightB xs = false ∨ lightB xs = true ∧ lightB ys = false ∨ lightB xs = true ∧ lightB ys = true ∧ 1000 < s.size) : Calls Tryd.prog 4 #[va, vb, .string s] w (Ret w (.bool true)) := by
  have CA := light_any va xs hda w ha
  have CB := fun w' (hB : Below w.heap.size w w') => light_any vb ys hdb w' (hb.below hB)
  have EN := Lib.hid E
  clear E ha hb hda hdb
  rcases hl with hl | ⟨hl, hm⟩ | ⟨hl, hm, hz⟩
  · rw [hl] at CA
    have HCA := Lib.hid CA
    clear CA CB hl
    go_enter Tryd.func4, Tryd.ntmps4
    go_wp2_with (go_at_call 12; refine HCA.out.mono ?_; clear HCA; rintro e w1 ⟨rfl, hb1⟩; have HB1 := Lib.hid hb1; clear hb1)
    refine (answers_any w1 (EN.out.below HB1.out EN.out.gl)).mono ?_
    rintro e w2 ⟨rfl, hb2⟩
    go_wp2_with fail
    go_ret
    exact ⟨rfl, HB1.out.trans (hb2.mono HB1.out.size)⟩
  · rw [hl] at CA
    rw [hm] at CB
    have HCA := Lib.hid CA
    have HCB := Lib.hid CB
    clear CA CB hl hm
    go_enter Tryd.func4, Tryd.ntmps4
    go_wp2_with (first
      | (go_at_call 12; refine HCA.out.mono ?_; clear HCA; rintro e w1 ⟨rfl, hb1⟩; have HB1 := Lib.hid hb1; clear hb1)
      | (go_at_call 12; refine (HCB.out w1 HB1.out).mono ?_; clear HCB; rintro e w2 ⟨rfl, hb2⟩; have HB2 := Lib.hid (HB1.out.trans (hb2.mono HB1.out.size)); clear hb2))
    refine (answers_any w2 (EN.out.below HB2.out EN.out.gl)).mono ?_
    rintro e w3 ⟨rfl, hb3⟩
    go_wp2_with fail
    go_ret
    exact ⟨rfl, HB2.out.trans (hb3.mono HB2.out.size)⟩
  · rw [hl] at CA
    rw [hm] at CB
    have HCA := Lib.hid CA
    have HCB := Lib.hid CB
    have hzi : (1000 : Int) < s.size := by omega
    clear CA CB hl hm
    go_enter Tryd.func4, Tryd.ntmps4
    go_wp2_with (first
      | (go_at_call 12; refine HCA.out.mono ?_; clear HCA; rintro e w1 ⟨rfl, hb1⟩; have HB1 := Lib.hid hb1; clear hb1)
      | (go_at_call 12; refine (HCB.out w1 HB1.out).mono ?_; clear HCB; rintro e w2 ⟨rfl, hb2⟩; have HB2 := Lib.hid (HB1.out.trans (hb2.mono HB1.out.size)); clear hb2))
    refine (answers_any w2 (EN.out.below HB2.out EN.out.gl)).mono ?_
    rintro e w3 ⟨rfl, hb3⟩
    go_wp2_with fail
    go_ret
    exact ⟨rfl, HB2.out.trans (hb3.mono HB2.out.size)⟩

theorem hex_both (l : List UInt8) (hl : l.length ≤ 35184372088832) : ∃ h : ByteArray, (∀ w v, BytesAt w v l → Calls Tryd.prog 16 #[v] w (Ret w (.string h))) ∧ (∀ w v, BytesAt w v l → Calls Tryd.prog 17 #[v] w (Ret w (.string h))) :=
  ⟨⟨(hexL l).toArray⟩, fun w v h => hex_any v l hl w h, fun w v h => refHex_any v l hl w h⟩
theorem below_conv (w : World) (s : ByteArray) : Below w.heap.size w (Lib.bytesWorld w 5 s) := Lib.bytesWorld_below w 5 s
theorem print_str (xs : List St) (hl : (printL xs).length ≤ 100000) : ∃ p : ByteArray, p.data.toList = printL xs ∧ p.size ≤ 100000 ∧ ∀ w v, Env w → StepsAt w v xs → Calls Tryd.prog 14 #[v] w (Ret w (.string p)) :=
  ⟨⟨(printL xs).toArray⟩, rfl, by rw [size_is]; exact hl, fun w v E h => print_any v xs (by omega) w E h⟩

set_option maxHeartbeats 2000000 in
set_option maxRecDepth 100000 in
theorem joins_light (xs ys : List St) (pa pb : Option Addr) (ca cb : Nat) (hda : ∀ x ∈ xs, x.d.length ≤ 140737488355328) (hdb : ∀ x ∈ ys, x.d.length ≤ 140737488355328) (hoa : ∀ x ∈ xs, i64ok x.k ∧ i64ok x.a ∧ i64ok x.b) (hob : ∀ x ∈ ys, i64ok x.k ∧ i64ok x.a ∧ i64ok x.b)
    (hsa : Slic (.slice pa xs.length ca)) (hsb : Slic (.slice pb ys.length cb)) (s : ByteArray) (hs : s.size ≤ 1000) (w : World) (E : Env w) (ha : StepsAt w (.slice pa xs.length ca) xs) (hb : StepsAt w (.slice pb ys.length cb) ys)
    (hla : lightB xs = true) (hlb : lightB ys = true) : Calls Tryd.prog 4 #[.slice pa xs.length ca, .slice pb ys.length cb, .string s] w (Ret w (.bool true)) := by
  have CA := light_any _ xs hda w ha
  have CB := fun w' (hB : Below w.heap.size w w') => light_any _ ys hdb w' (hb.below hB)
  rw [hla] at CA
  rw [hlb] at CB
  obtain ⟨ta, ta1, ta2, ta3⟩ := print_str xs (light_print xs hoa hla)
  obtain ⟨tb, tb1, tb2, tb3⟩ := print_str ys (light_print ys hob hlb)
  have hxn : xs.length ≤ 300 := by simp [lightB] at hla; omega
  have hyn : ys.length ≤ 300 := by simp [lightB] at hlb; omega
  have hab : (ta ++ tb).data.toList = printL xs ++ printL ys := by rw [app_data, ta1, tb1]
  have CP := fun w' E' => parse_any (ta ++ tb) (by rw [size_is, app_data, List.length_append, ← size_is, ← size_is]; omega) w' E'
  unfold ParsePost at CP
  rw [hab, parse_joined xs ys (fun x hx => hoa x hx) (fun x hx => hob x hx)] at CP
  have q1 : ¬ (9223372036854775807 < ta.size + tb.size) := by omega
  have hzi : ¬ (1000 : Int) < s.size := by omega
  obtain ⟨hx, hx1, hx2⟩ := hex_both s.data.toList (by rw [← size_is]; omega)
  have HX1 := Lib.hid hx1
  have HX2 := Lib.hid hx2
  clear hx1 hx2
  have EN := Lib.hid E
  have HA := Lib.hid ha
  have HB := Lib.hid hb
  have HCA := Lib.hid CA
  have HCB := Lib.hid CB
  have HPA := Lib.hid ta3
  have HPB := Lib.hid tb3
  have HTA := Lib.hid (And.intro ta1 ta2)
  have HTB := Lib.hid (And.intro tb1 tb2)
  have HCP := Lib.hid CP
  have HSA := Lib.hid hsa
  have HSB := Lib.hid hsb
  have HXN := Lib.hid hxn
  have HYN := Lib.hid hyn
  have HOA := Lib.hid hoa
  have HOB := Lib.hid hob
  clear E ha hb hda hdb CA CB ta1 ta2 ta3 tb1 tb2 tb3 CP hab hsa hsb hla hlb hxn hyn hoa hob
  go_enter Tryd.func4, Tryd.ntmps4
  go_wp2_with (first
    | (go_at_call 12; refine HCA.out.mono ?_; clear HCA; rintro e w1 ⟨rfl, hb1⟩; have HB1 := Lib.hid hb1; clear hb1)
    | (go_at_call 12; refine (HCB.out w1 HB1.out).mono ?_; clear HCB; rintro e w2 ⟨rfl, hb2⟩; have HB2 := Lib.hid (HB1.out.trans (hb2.mono HB1.out.size)); clear hb2 HB1)
    | (go_at_call 14; refine (HPA.out w2 _ (EN.out.below HB2.out EN.out.gl) (HA.out.below HB2.out)).mono ?_; rintro e w3 ⟨rfl, hb3⟩; have HB3 := Lib.hid (HB2.out.trans (hb3.mono HB2.out.size)); clear hb3 HB2)
    | (go_at_call 14; refine (HPB.out w3 _ (EN.out.below HB3.out EN.out.gl) (HB.out.below HB3.out)).mono ?_; rintro e w4 ⟨rfl, hb4⟩; have HB4 := Lib.hid (HB3.out.trans (hb4.mono HB3.out.size)); clear hb4 HB3)
    | (go_at_call 13; refine (HCP.out w4 (EN.out.below HB4.out EN.out.gl)).mono ?_; clear HCP; rintro e w5 ⟨hb5, u, rfl, hst⟩; have HB5 := Lib.hid (HB4.out.trans (hb5.mono HB4.out.size)); have HU := Lib.hid hst; clear hb5 HB4 hst; have HA5 := Lib.hid (HA.out.below HB5.out); have HC5 := Lib.hid (HB.out.below HB5.out))
    | (refine wpList_append_stepsW rfl (.tmp 48) (.tmp 49) rfl w5 w5.heap.size (Nat.le_refl _) (by simp) ((Below.refl _ w5).alloc (Nat.le_refl _) _) _ [] [] rfl (World.ownsRow_made w5 #[] 0 (Nat.le_refl _) (Nat.zero_le _) rfl) (CellSts.nil _) _ xs rfl HA5.out HSA.out (by have := HXN.out; simp; omega) ?_; intro v6 w6 c6 o6 r6 b6 l6; have HO6 := Lib.hid o6; have HR6 := Lib.hid r6; have HB6 := Lib.hid b6; have HL6 := Lib.hid l6; clear o6 r6 b6 l6)
    | (refine wpList_append_stepsW rfl (.tmp 50) (.tmp 51) rfl w5 w5.heap.size (Nat.le_refl _) HL6.out HB6.out _ _ c6 rfl HO6.out HR6.out _ ys rfl HC5.out HSB.out (by have := HXN.out; have := HYN.out; simp; omega) ?_; intro v7 w7 c7 o7 r7 b7 l7; have HT7 := Lib.hid (stepsAt_cells o7 (r7.below b7)); have HB7 := Lib.hid b7; clear o7 r7 b7 l7 HO6 HR6 HB6 HL6)
    | (go_at_call 15; refine (same_any u v7 (xs ++ ys) w7 (HU.out.below HB7.out) HT7.out).mono ?_; rintro e w8 ⟨rfl, hb8⟩; have HB8 := Lib.hid (HB7.out.trans (hb8.mono HB7.out.size)); have kc8 := Lib.run_convert_string_bytes (P := Tryd.prog) w8 9 37 5 s Tryd.underlying9 Tryd.underlying37 Tryd.underlying5; clear hb8 HB7 HT7)
    | (go_at_call 16; refine (HX1.out _ _ (bytesAt_conv w8 s (by omega))).mono ?_; clear kc8; rintro e w9 ⟨rfl, hb9⟩; have HB9 := Lib.hid ((HB8.out.trans ((below_conv w8 s).mono HB8.out.size)).trans (hb9.mono (Nat.le_trans HB8.out.size (below_conv w8 s).size))); have kc9 := Lib.run_convert_string_bytes (P := Tryd.prog) w9 9 37 5 s Tryd.underlying9 Tryd.underlying37 Tryd.underlying5; clear hb9 HB8)
    | (go_at_call 17; refine (HX2.out _ _ (bytesAt_conv w9 s (by omega))).mono ?_; clear kc9; rintro e w10 ⟨rfl, hb10⟩; have HB10 := Lib.hid (HB5.out.trans (((HB9.out.trans ((below_conv w9 s).mono HB9.out.size)).trans (hb10.mono (Nat.le_trans HB9.out.size (below_conv w9 s).size))).mono HB5.out.size)); clear hb10 HB9))
  clear HA5 HC5 HU HX1 HX2 HSA HSB
  have HL := Lib.hid (size_is s)
  go_loopw [10] (fun v10 wr => ∃ (k : Nat), k ≤ s.size ∧ v10 = .int .i64 k ∧ (∀ j, j < k → s.data.toList[j]? ≠ some 10) ∧ Below w.heap.size w wr) (fun v10 _ => s.size - (intOf v10).toNat)
  case atStart => exact ⟨0, by omega, rfl, fun j h => by omega, HB10.out⟩
  case round =>
    obtain ⟨k, hk, rfl, hno, hB⟩ := hrel
    have HNO := Lib.hid hno
    have HBR := Lib.hid hB
    clear hno hB
    by_cases hlt : k < s.size
    · have hlti : (k : Int) < s.size := by omega
      obtain ⟨c, hc⟩ : ∃ c, s[k] = c := ⟨_, rfl⟩
      have hli : s.data.toList[k]? = some c := by
        have h1 := Lib.getD_at s k hlt
        have hl2 : k < s.data.toList.length := by rw [← HL.out]; exact hlt
        rw [hc, List.getD_eq_getElem?_getD, List.getElem?_eq_getElem hl2] at h1
        rw [List.getElem?_eq_getElem hl2]
        exact congrArg some h1.symm
      have HLI := Lib.hid hli
      clear hli
      by_cases h10 : c = 10
      · have hb : ((c.toNat : Int) == 10) = true := by rw [h10]; rfl
        go_wp2_with fail
        refine (answers_any wr (EN.out.below HBR.out EN.out.gl)).mono ?_
        rintro e w11 ⟨rfl, hb11⟩
        go_wp2_with fail
        go_ret
        exact ⟨rfl, HBR.out.trans (hb11.mono HBR.out.size)⟩
      · have hb : ((c.toNat : Int) == 10) = false := by
          rw [beq_eq_false_iff_ne]
          intro e
          exact h10 (u8_10 c e)
        go_wp2_with fail
        go_roundw
        case rel =>
          refine ⟨k + 1, by omega, by go_num, fun j hj => ?_, HBR.out⟩
          by_cases e : j = k
          · subst e; rw [HLI.out]; intro h; exact h10 (Option.some.inj h)
          · exact HNO.out j (by omega)
        case measure => simp [intOf]; omega
    · have hks : k = s.size := by omega
      have hlti : ¬ (k : Int) < s.size := by omega
      have hno : ∀ c ∈ s.data.toList, c ≠ 10 := by
        intro c hc e
        subst e
        obtain ⟨j, hj⟩ := List.mem_iff_getElem?.1 hc
        exact HNO.out j (by rw [hks, HL.out]; exact (List.getElem?_eq_some_iff.1 hj).1) hj
      have HN10 := Lib.hid hno
      clear hno
      have CO := refReadLine_any s (by omega) wr
      unfold OnePost at CO
      cases ho : oneL s.data.toList with
      | some y =>
        rw [ho] at CO
        have HCO := Lib.hid CO
        clear CO ho
        go_wp2_with (go_at_call 18; refine HCO.out.mono ?_; clear HCO; rintro e w11 ⟨hb11, d, rfl, how, hok⟩; have HB11 := Lib.hid (HBR.out.trans (hb11.mono HBR.out.size)); obtain ⟨da, dc, rfl⟩ := own_shape1 how; clear hb11 how hok)
        have hB12 := HB11.out.alloc HB11.out.size (.cells #[.int .i64 y.k, .int .i64 y.a, .int .i64 y.b, .slice da y.d.length dc] 39)
        refine (answers_any _ (EN.out.below hB12 EN.out.gl)).mono ?_
        rintro e w12 ⟨rfl, hb12⟩
        have HB13 := Lib.hid (hB12.trans (hb12.mono hB12.size))
        clear hB12 hb12
        go_wp2_with fail
        go_ret
        exact ⟨rfl, HB13.out⟩
      | none =>
        rw [ho] at CO
        have HCO := Lib.hid CO
        have HO := Lib.hid ho
        clear CO ho
        go_wp2_with (go_at_call 18; refine HCO.out.mono ?_; clear HCO; rintro e w11 ⟨hb11, rfl⟩; have HB11 := Lib.hid (HBR.out.trans (hb11.mono HBR.out.size)); clear hb11)
        have hB12 := HB11.out.alloc HB11.out.size (.cells #[.int .i64 0, .int .i64 0, .int .i64 0, .slice none 0 0] 39)
        have hta := HTA.out.2
        have htb := HTB.out.2
        have q2 : ¬ (9223372036854775807 < ta.size + s.size) := by omega
        have q3 : ¬ (9223372036854775807 < ta.size + s.size + 1) := by omega
        have q4 : ¬ (9223372036854775807 < ta.size + s.size + 1 + tb.size) := by omega
        have z1 : (ByteArray.mk #[10]).size = 1 := rfl
        have hq : (ta ++ s ++ ⟨#[10]⟩ ++ tb).data.toList = printL xs ++ (s.data.toList ++ 10 :: printL ys) := by
          rw [app_data, app_data, app_data, HTA.out.1, HTB.out.1]
          simp
        have CQ := fun w' E' => parse_any (ta ++ s ++ ⟨#[10]⟩ ++ tb) (by
          rw [size_is, app_data, app_data, app_data, List.length_append, List.length_append, List.length_append, ← size_is, ← size_is, ← size_is]
          show ta.size + s.size + 1 + tb.size ≤ _
          omega) w' E'
        unfold ParsePost at CQ
        rw [hq, parse_between xs ys s.data.toList (fun x hx => HOA.out x hx) HN10.out HO.out] at CQ
        have HCQ := Lib.hid CQ
        have hxb := HXN.out
        clear hq CQ hta htb
        obtain ⟨w12, hw12⟩ : ∃ w12, w11.alloc (.cells #[.int .i64 0, .int .i64 0, .int .i64 0, .slice none 0 0] 39) = w12 := ⟨_, rfl⟩
        rw [hw12] at hB12 ⊢
        have HB12 := Lib.hid hB12
        clear hw12 hB12 HB11
        refine (HPA.out w12 _ (EN.out.below HB12.out EN.out.gl) (HA.out.below HB12.out)).mono ?_
        rintro e w13 ⟨rfl, hb13⟩
        have HB13 := Lib.hid (HB12.out.trans (hb13.mono HB12.out.size))
        clear hb13 HB12
        go_wp2_with (first
          | (go_at_call 14; refine (HPB.out w13 _ (EN.out.below HB13.out EN.out.gl) (HB.out.below HB13.out)).mono ?_; rintro e w14 ⟨rfl, hb14⟩; have HB14 := Lib.hid (HB13.out.trans (hb14.mono HB13.out.size)); clear hb14 HB13)
          | (go_at_call 13; refine (HCQ.out w14 (EN.out.below HB14.out EN.out.gl)).mono ?_; clear HCQ; rintro e w15 ⟨hb15, m, rfl, p, c, hm, _⟩; subst hm; have HB15 := Lib.hid (HB14.out.trans (hb15.mono HB14.out.size)); clear hb15 HB14)
          | (go_at_call 7; refine (answers_any w15 (EN.out.below HB15.out EN.out.gl)).mono ?_; rintro e w16 ⟨rfl, hb16⟩; have HB16 := Lib.hid (HB15.out.trans (hb16.mono HB15.out.size)); clear hb16 HB15))
        go_ret
        exact ⟨rfl, HB16.out⟩

theorem joins_any (va vb : Value) (xs ys : List St) (hda : ∀ x ∈ xs, x.d.length ≤ 140737488355328) (hdb : ∀ x ∈ ys, x.d.length ≤ 140737488355328) (hoa : ∀ x ∈ xs, i64ok x.k ∧ i64ok x.a ∧ i64ok x.b) (hob : ∀ x ∈ ys, i64ok x.k ∧ i64ok x.a ∧ i64ok x.b)
    (hsa : Slic va) (hsb : Slic vb) (s : ByteArray) (hs : s.size ≤ 9223372036854775807) (w : World) (E : Env w) (ha : StepsAt w va xs) (hb : StepsAt w vb ys) : Calls Tryd.prog 4 #[va, vb, .string s] w (Ret w (.bool true)) := by
  cases hla : lightB xs with
  | false => exact joins_heavy va vb xs ys hda hdb s hs w E ha hb (.inl hla)
  | true =>
    cases hlb : lightB ys with
    | false => exact joins_heavy va vb xs ys hda hdb s hs w E ha hb (.inr (.inl ⟨hla, hlb⟩))
    | true =>
      by_cases hz : 1000 < s.size
      · exact joins_heavy va vb xs ys hda hdb s hs w E ha hb (.inr (.inr ⟨hla, hlb, hz⟩))
      · obtain ⟨pa, ca, rfl, _⟩ := id ha
        obtain ⟨pb, cb, rfl, _⟩ := id hb
        exact joins_light xs ys pa pb ca cb hda hdb hoa hob hsa hsb s (by omega) w E ha hb hla hlb
end Go.Proofs.YtnollfnjidbdcaaDoor.X

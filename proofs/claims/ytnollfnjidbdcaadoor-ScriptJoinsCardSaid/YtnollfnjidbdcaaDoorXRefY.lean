/- The reference's bytes: what stands behind an x. -/
import Derived.Test.YtnollfnjidbdcaaDoorXRefB
import Derived.Deep.QuietTactic
import Derived.Deep.RegionWith
namespace Go.Proofs.YtnollfnjidbdcaaDoor.X
open Go.RowKit
set_option linter.unusedSimpArgs false
set_option linter.unusedVariables false

def BytesPost (l : List UInt8) (w : World) (e : Ending) (w' : World) : Prop :=
  Below w.heap.size w w' ∧ match unhexL l with
    | some d => ∃ v, e = .returned (.tuple #[v, .bool true]) ∧ w'.ownsRow w.heap.size 5 1 v d.length (Lib.byteCells d)
    | none => e = .returned (.tuple #[.slice none 0 0, .bool false])
theorem bytesPost_none {l : List UInt8} {w w' : World} (h : unhexL l = none) (hb : Below w.heap.size w w') : BytesPost l w (.returned (.tuple #[.slice none 0 0, .bool false])) w' := by
  refine ⟨hb, ?_⟩; rw [h]
theorem pairs_bad2 : ∀ (r : List UInt8) (k : Nat) (x : UInt8), r[k]? = some x → nib x < 0 → pairsL r = none := fun r k x h hn => pairs_bad r k x h hn

theorem refDigit_same (c : UInt8) (w : World) : Calls Tryd.prog 45 #[.int .u8 c.toNat] w fun e w' => e = .returned (.int .i64 (nib c)) ∧ w' = w :=
  (refDigit_any c w).mono fun e w' ⟨h1, h2⟩ => ⟨h1, h2.symm⟩
set_option maxHeartbeats 2000000 in
set_option maxRecDepth 100000 in
theorem refBytes_odd (s : ByteArray) (hs : s.size ≤ 1000000) (w : World) (h : s.size % 2 ≠ 1) (hu : unhexL s.data.toList = none) : Calls Tryd.prog 35 #[.string s] w (BytesPost s.data.toList w) := by
  have hm : (((s.size : Int) % 2) != 1) = true := by rw [bne_iff_ne]; omega
  have HU := Lib.hid hu
  clear hu h
  go_enter Tryd.func35, Tryd.ntmps35
  go_wp2_with fail
  go_ret2
  exact bytesPost_none HU.out (Below.refl _ _)
set_option maxHeartbeats 2000000 in
set_option maxRecDepth 100000 in
theorem refBytes_noX (s : ByteArray) (hs : s.size ≤ 1000000) (w : World) (h2 : s.size % 2 = 1) (c : UInt8) (h0 : 0 < s.size) (hc : s[0] = c) (hne : ¬ (c.toNat : Int) = 120) (hu : unhexL s.data.toList = none) : Calls Tryd.prog 35 #[.string s] w (BytesPost s.data.toList w) := by
  have hm : (s.size : Int) % 2 = 1 := by omega
  have h0i : (0 : Int) < s.size := by omega
  have hcn : (((c.toNat : Int)) != 120) = true := by rw [bne_iff_ne]; exact hne
  have HU := Lib.hid hu
  clear hu h2
  go_enter Tryd.func35, Tryd.ntmps35
  go_wp2_with fail
  go_ret2
  exact bytesPost_none HU.out (Below.refl _ _)
set_option maxHeartbeats 2000000 in
set_option maxRecDepth 100000 in
theorem refBytes_yes (s : ByteArray) (hs : s.size ≤ 1000000) (w : World) (r : List UInt8) (hr : s.data.toList = 120 :: r) (h2 : s.size % 2 = 1) : Calls Tryd.prog 35 #[.string s] w (BytesPost s.data.toList w) := by
  have hz : s.size = r.length + 1 := by rw [size_is, hr]; rfl
  have h0 : 0 < s.size := by omega
  have h0i : (0 : Int) < s.size := by omega
  have hm : (s.size : Int) % 2 = 1 := by omega
  have hx : s[0] = 120 := by
    have := Lib.getD_at s 0 h0
    rw [hr] at this
    exact this
  have hu : unhexL s.data.toList = pairsL r := by rw [hr, unhexL, if_pos rfl]
  have HU := Lib.hid hu
  have HR := Lib.hid hr
  have HZ := Lib.hid hz
  clear hu hr hz h2
  go_enter Tryd.func35, Tryd.ntmps35
  go_wp2_with fail
  obtain ⟨m, hm2⟩ : ∃ m, r.length = 2 * m := ⟨r.length / 2, by have := HZ.out; omega⟩
  have HM := Lib.hid hm2
  clear hm2
  obtain ⟨i0, hi, hz0, hz1, hz2⟩ := info_parts info5
  go_loopw [4, 5, 6, 7] (fun v4 v5 _ _ wr => ∃ (k p : Nat) (D : List UInt8), k ≤ m ∧ p = 2 * k + 1 ∧ v5 = .int .i64 p ∧ wr.ownsRow w.heap.size 5 1 v4 D.length (Lib.byteCells D) ∧ D.length = k ∧ pairsL (r.take (2 * k)) = some D ∧ Below w.heap.size w wr) (fun _ v5 _ _ _ => r.length + 1 - (intOf v5).toNat)
  case atStart => exact ⟨0, 1, [], by omega, rfl, rfl, World.ownsRow_nil _ _ _ _, rfl, rfl, Below.refl _ _⟩
  case round =>
    obtain ⟨k, p, D, hk, hpk, rfl, how, hD, hp, hB⟩ := hrel
    have HOW := Lib.hid how
    have HD := Lib.hid hD
    have hzz := HZ.out
    have hmm := HM.out
    clear hD
    have HP := Lib.hid hp
    have HB := Lib.hid hB
    clear how hp hB
    by_cases hkm : k < m
    · have hs1 : s.size ≤ 1000000 := hs
      have HKM := Lib.hid hkm
      have HSS := Lib.hid hs1
      obtain ⟨x, hxx⟩ : ∃ x, r[2 * k]? = some x := ⟨r[2 * k]'(by omega), List.getElem?_eq_getElem _⟩
      obtain ⟨y, hyy⟩ : ∃ y, r[2 * k + 1]? = some y := ⟨r[2 * k + 1]'(by omega), List.getElem?_eq_getElem _⟩
      have l1 : p < s.size := by omega
      have l2 : p + 1 < s.size := by omega
      have hx1 : s[p] = x := by
        rw [Lib.getD_at s _ l1, HR.out, List.getD_eq_getElem?_getD, hpk, List.getElem?_cons_succ, hxx]; rfl
      have hy1 : s[p + 1] = y := by
        rw [Lib.getD_at s _ l2, HR.out, List.getD_eq_getElem?_getD, hpk, List.getElem?_cons_succ, hyy]; rfl
      have l1i : (p : Int) < s.size := by omega
      have l2i : (p : Int) + 1 < s.size := by omega
      have hki : (p : Int) + 1 ≤ 1000001 := by omega
      have HPK := Lib.hid hpk
      have HXX := Lib.hid hxx
      have HYY := Lib.hid hyy
      clear hpk hzz hmm hm hx h0 h0i hs hxx hyy hk
      go_wp2_with fail
      have hwp : IntKind.i64.wrap ((p : Int) + 1) = (p : Int) + 1 := IntWalk.i64_in _ (by omega)
      go_quiet (first | (go_at_call 45; with_reducible exact Calls.quiet_of_same (refDigit_same x _)) | (go_at_call 45; with_reducible exact Calls.quiet_of_same (refDigit_same y _)))
      have hq1 : (wr.drewN nq).ownsRow w.heap.size 5 1 u4 D.length (Lib.byteCells D) := HOW.out
      have hq2 : Below w.heap.size w (wr.drewN nq) := below_drewN HB.out nq
      generalize wr.drewN nq = wq at hq1 hq2 ⊢
      have HQ1 := Lib.hid hq1
      have HQ2 := Lib.hid hq2
      clear hq1 hq2 hx1 hy1
      by_cases hnx : nib x < 0
      · have hbad := Lib.hid (show unhexL s.data.toList = none by rw [HU.out]; exact pairs_bad r _ x HXX.out hnx)
        go_wp2_with fail
        go_ret2
        exact bytesPost_none hbad.out HQ2.out
      · by_cases hny : nib y < 0
        · have hbad := Lib.hid (show unhexL s.data.toList = none by rw [HU.out]; exact pairs_bad r _ y HYY.out hny)
          go_wp2_with fail
          go_ret2
          exact bytesPost_none hbad.out HQ2.out
        · have e0 : 0 ≤ nib x := by omega
          have e1 : 0 ≤ nib y := by omega
          have e2 := nib_lt x
          have e3 := nib_lt y
          have HKK := Lib.hid (show k ≤ 1000000 by have := HPK.out; have := HD.out; have := hki; omega)
          clear l1i l2i hki l1 l2
          clear hkm hs1
          clear hnx hny
          have hp2 : (p : Int) ≤ 1000001 := by have := HSS.out; have := HPK.out; have := HKK.out; have := HZ.out; have := HM.out; have := HKM.out; omega
          go_wp2_with (at_builtin; refine wpList_append_own _ rfl _ _ 37 rfl w.heap.size 5 i0 (.int .u8 0) 1 1 Tryd.underlying37 hi hz0 hz1 hz2 rfl (by decide) _ _ _ rfl (HQ1.out.alloc _) ⟨wq.heap.size, 0, none⟩ 1 1 [.int .u8 (nib x * 16 + nib y)] rfl rfl (cell_new1 _ _ _) (by simp [Value.oneCell']) (by unfold maxLen; have := HD.out; have := HKK.out; omega) (by have := HD.out; have := HKK.out; omega) (by have := HQ2.out.size; simp; omega) ?_; intro v' w3 hown' hgrow _; have HO3 := Lib.hid hown'; have HG3 := Lib.hid hgrow; clear hown' hgrow)
          go_roundw
          case rel =>
            refine ⟨k + 1, p + 2, D ++ [UInt8.ofNat (nib x * 16 + nib y).toNat], by have := HKM.out; omega, by have := HPK.out; omega, by go_num, ?_, by simp; exact HD.out, ?_, ?_⟩
            · have h := HO3.out
              rw [cells_snoc, byte_of _ (by omega) (by omega)]
              simpa using h
            · rw [show 2 * (k + 1) = 2 * k + 2 by omega, take_two r (2 * k) x y HXX.out HYY.out]
              exact pairs_snoc _ _ _ _ HP.out e0 e1
            · exact (HQ2.out.alloc HQ2.out.size _).grown HG3.out (by have := HQ2.out.size; simp; omega) (fun q hq => (ownsRow_lo HQ1.out q hq))
          case measure => simp [intOf]; have := HPK.out; have := HM.out; have := HKM.out; omega
    · have hk' : k = m := by omega
      have hpz : ¬ (p : Int) < s.size := by omega
      clear hzz hmm
      go_wp2_with fail
      go_ret2
      refine ⟨HB.out, ?_⟩
      have h := HP.out
      rw [List.take_of_length_le (by have := HM.out; omega)] at h
      rw [HU.out, h]
      exact ⟨_, rfl, HOW.out⟩

theorem refBytes_any (s : ByteArray) (hs : s.size ≤ 1000000) (w : World) : Calls Tryd.prog 35 #[.string s] w (BytesPost s.data.toList w) := by
  have hsz := size_is s
  cases hl : s.data.toList with
  | nil =>
    rw [← hl]
    exact refBytes_odd s hs w (by rw [hsz, hl]; simp) (by rw [hl]; rfl)
  | cons c r =>
    have hz : s.size = r.length + 1 := by rw [hsz, hl]; rfl
    rw [← hl]
    by_cases h2 : s.size % 2 = 1
    · have h0 : 0 < s.size := by omega
      have hx : s[0] = c := by
        have := Lib.getD_at s 0 h0
        rw [hl] at this
        exact this
      by_cases hc : c = 120
      · subst hc
        exact refBytes_yes s hs w r hl h2
      · refine refBytes_noX s hs w h2 c h0 hx (fun e => hc ?_) (by rw [hl, unhexL, if_neg hc])
        exact UInt8.toNat_inj.1 (by have : c.toNat = 120 := by omega
                                    rw [this]; rfl)
    · refine refBytes_odd s hs w h2 ?_
      rw [hl, unhexL]
      split
      · exact pairs_odd r (by omega)
      · rfl
end Go.Proofs.YtnollfnjidbdcaaDoor.X

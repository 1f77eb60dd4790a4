/- The reference's Set, where the text ends as it should. -/
import Derived.Test.YtnollfnjidbdcaaDoorXRefT
import Derived.Test.YtnollfnjidbdcaaDoorXRefR
import Derived.Test.YtnollfnjidbdcaaDoorXReadLaw
namespace Go.Proofs.YtnollfnjidbdcaaDoor.X
open Go.RowKit
set_option linter.unusedSimpArgs false
set_option linter.unusedVariables false

theorem cut_end (s : ByteArray) (h0 : 0 < s.size) (hc : s[s.size - 1] = 10) : s.data.toList = (s.extract 0 (s.size - 1)).data.toList ++ [10] := by
  have hz := size_is s
  have h1 := Lib.getD_at s (s.size - 1) (by omega)
  rw [hc] at h1
  have h2 : s.size - 1 < s.data.toList.length := by omega
  rw [List.getD_eq_getElem?_getD, List.getElem?_eq_getElem h2, Option.getD_some] at h1
  rw [Lib.extract_eq]
  show _ = (s.data.toList.drop 0).take (s.size - 1 - 0) ++ [10]
  rw [List.drop_zero, Nat.sub_zero]
  conv => lhs; rw [← List.take_append_drop (s.size - 1) s.data.toList]
  congr 1
  rw [List.drop_eq_getElem_cons h2, List.drop_of_length_le (by omega), h1]
theorem setL_cut (s : ByteArray) (h0 : 0 < s.size) (hc : s[s.size - 1] = 10) : setL s.data.toList = if (splitL (s.extract 0 (s.size - 1)).data.toList).length = 18 then numsL (splitL (s.extract 0 (s.size - 1)).data.toList) else none := by
  have h := cut_end s h0 hc
  have h1 : Lib.hasSuffix s.data.toList [10] = true := by rw [h]; exact suffix_end _
  have h2 : Lib.trimSuffix s.data.toList [10] = (s.extract 0 (s.size - 1)).data.toList := by rw [h]; exact trim_end _
  rw [setL_end h1, h2]
theorem extract_le (s : ByteArray) (a i : Nat) : (s.extract a i).size ≤ s.size := by
  rw [size_is, size_is s, Lib.extract_eq]
  show ((s.data.toList.drop a).take (i - a)).length ≤ _
  rw [List.length_take, List.length_drop]; omega
theorem u8_10 (c : UInt8) (h : (c.toNat : Int) = 10) : c = 10 := by
  apply UInt8.toNat_inj.1
  have : c.toNat = 10 := by omega
  rw [this]
  rfl

set_option maxHeartbeats 2000000 in
set_option maxRecDepth 100000 in
theorem refSet_count (s : ByteArray) (hs : s.size ≤ 1000000) (h0 : 0 < s.size) (hc : s[s.size - 1] = 10) (h18 : ¬ (splitL (s.extract 0 (s.size - 1)).data.toList).length = 18) (w : World) : Calls Tryd.prog 10 #[.string s] w (SetPost s.data.toList w) := by
  have hset := setL_cut s h0 hc
  have hrs : (s.extract 0 (s.size - 1)).size ≤ 1000000 := Nat.le_trans (extract_le _ _ _) hs
  have hX0 := heap_alloc_new w (.cells zs18 23)
  have hB0 : Below w.heap.size w (w.alloc (.cells zs18 23)) := (Below.refl _ w).alloc (Nat.le_refl _) _
  have CC := refCut_any (s.extract 0 (s.size - 1)) hrs (w.alloc (.cells zs18 23))
  have hle : ∀ x ∈ splitL (s.extract 0 (s.size - 1)).data.toList, x.length ≤ 1000000 := fun x hx => by
    have := split_le _ x hx
    rw [← size_is] at this; omega
  have hwl := split_count (s.extract 0 (s.size - 1)).data.toList
  rw [← size_is] at hwl
  have hpos := List.length_pos_iff.2 (splitL_ne (s.extract 0 (s.size - 1)).data.toList)
  obtain ⟨ws, hws⟩ : ∃ ws, splitL (s.extract 0 (s.size - 1)).data.toList = ws := ⟨_, rfl⟩
  rw [hws] at hset CC hle hwl hpos h18
  have hwl1 : ws.length ≤ 1000001 := by omega
  unfold zs18 at hX0 hB0 CC
  have hse : ¬ s = ByteArray.empty := by rintro rfl; exact absurd h0 (by decide)
  have hsz0 : ((s.size : Int) == 0) = false := by rw [beq_eq_false_iff_ne]; omega
  have hi1 : ((s.size : Int) - 1) < s.size := by omega
  have hi0 : (0 : Int) ≤ (s.size : Int) - 1 := by omega
  have hi2 : ((s.size : Int) - 1) ≤ s.size := by omega
  have hw : IntKind.i64.wrap ((s.size : Int) - 1) = (s.size : Int) - 1 := IntWalk.i64_in _ (by omega)
  have ht : ((s.size : Int) - 1).toNat = s.size - 1 := by omega
  have hne : ((ws.length : Int) != 18) = true := by rw [bne_iff_ne]; omega
  have HSET := Lib.hid hset
  have HLE := Lib.hid hle
  have HPOS := Lib.hid hpos
  have HWL := Lib.hid hwl1
  have H18 := Lib.hid h18
  have KX0 := Lib.hid hX0
  have KB0 := Lib.hid hB0
  have HCC := Lib.hid CC
  clear hset hle hpos hwl hwl1 h18 hX0 hB0 CC hws hrs
  go_enter Tryd.func10, Tryd.ntmps10
  go_wp2_with (go_at_call 26; refine HCC.out.mono ?_; clear HCC; rintro e W2 ⟨v, rfl, how, hb2⟩; obtain ⟨g, cc, rfl, hc1, hc2, hg1, hg2, hcells⟩ := row_str how HPOS.out; have HN2 := Lib.hid ((hb2.block _ (Array.getElem?_eq_some_iff.1 KX0.out).1).trans KX0.out); have HB2 := Lib.hid (KB0.out.trans (hb2.mono KB0.out.size)); have HC1 := Lib.hid hc1; have HC2 := Lib.hid hc2; have HG2 := Lib.hid hg2; have HCS := Lib.hid hcells; clear hb2 how hc1 hc2 hg1 hg2 hcells KB0 KX0)
  have hB23 : Below W2.heap.size W2 (W2.alloc (.cells zs18 23)) := (Below.refl _ _).alloc (Nat.le_refl _) _
  have hX3 := heap_alloc_new W2 (.cells zs18 23)
  have hz3 := World.size_alloc W2 (.cells zs18 23)
  unfold zs18 at hB23 hX3 hz3
  obtain ⟨W3, hW3⟩ : ∃ W3, W2.alloc (.cells #[.int .i64 0, .int .i64 0, .int .i64 0, .int .i64 0, .int .i64 0, .int .i64 0, .int .i64 0, .int .i64 0, .int .i64 0, .int .i64 0, .int .i64 0, .int .i64 0, .int .i64 0, .int .i64 0, .int .i64 0, .int .i64 0, .int .i64 0, .int .i64 0] 23) = W3 := ⟨_, rfl⟩
  rw [hW3] at hB23 hX3 hz3 ⊢
  clear hW3
  have hN3 := (hB23.block _ (Array.getElem?_eq_some_iff.1 HN2.out).1).trans HN2.out
  have hcs3 : ∀ j x, ws[j]? = some x → W3.cell? ⟨g, j, none⟩ = some (.string ⟨x.toArray⟩) := fun j x hj => cell_below (HCS.out j x hj) hB23
  have hB3 := HB2.out.trans (hB23.mono HB2.out.size)
  have hgX : g ≠ W2.heap.size := by have := HG2.out; omega
  have hwX : w.heap.size ≠ W2.heap.size := by have := (Array.getElem?_eq_some_iff.1 HN2.out).1; omega
  have hwX2 : w.heap.size ≤ W2.heap.size := HB2.out.size
  obtain ⟨X, hX⟩ : ∃ X, W2.heap.size = X := ⟨_, rfl⟩
  rw [hX] at hX3 hz3 hgX hwX hwX2 ⊢
  clear hX hB23
  refine (refFields_any X W3).mono ?_
  rintro e W4 ⟨rfl, hg4, hB4⟩
  have hpX : W3.heap.size ≠ X := by omega
  have HP4 := Lib.hid hg4
  have HX4 := Lib.hid ((hB4.block _ (Array.getElem?_eq_some_iff.1 hX3).1).trans hX3)
  have HN4 := Lib.hid ((hB4.block _ (Array.getElem?_eq_some_iff.1 hN3).1).trans hN3)
  have HCS4 := Lib.hid (fun j x hj => cell_below (hcs3 j x hj) hB4)
  have HB4 := Lib.hid (hB3.trans (hB4.mono hB3.size))
  have HGX := Lib.hid hgX
  have HWX := Lib.hid hwX
  have HWX2 := Lib.hid hwX2
  have HPX := Lib.hid hpX
  obtain ⟨p, hp⟩ : ∃ p, W3.heap.size = p := ⟨_, rfl⟩
  rw [hp] at HP4 HPX ⊢
  have hccm : cc ≤ 9223372036854775807 := by have := HC2.out; unfold maxLen at this; omega
  have hcc1 : ws.length ≤ cc := HC1.out
  have HCM := Lib.hid hccm
  have HC3 := Lib.hid hcc1
  clear hX3 hN3 hcs3 hB3 hgX hwX hwX2 hg4 hB4 hpX hp hz3 HN2 HB2 HC1 HC2 HG2 HCS hccm hcc1
  have HN5 := HN4
  go_wp2_with (refine wpList_store23 rfl (.tmp 2) (.tmp 34) rfl w.heap.size rfl zs18 rfl zs18 HN5.out rfl rfl zs18_one ?_)
  exact bodyPost_ret (results_cell_tmp Tryd.results10 _ _ w.heap.size 23 zs18 (0, 0) _ (.bool false) rfl rfl (setRow_heap _ _ _ _ _ _ HN5.out) Tryd.underlying23 rfl (by kernel_rfl)) rfl
    (setPost_none (HSET.out.trans (if_neg H18.out)) (below_setRow HB4.out (Nat.le_refl _) _))

set_option maxHeartbeats 2000000 in
set_option maxRecDepth 100000 in
theorem refSet_yes (s : ByteArray) (hs : s.size ≤ 1000000) (h0 : 0 < s.size) (hc : s[s.size - 1] = 10) (h18 : (splitL (s.extract 0 (s.size - 1)).data.toList).length = 18) (w : World) : Calls Tryd.prog 10 #[.string s] w (SetPost s.data.toList w) := by
  have hset := setL_cut s h0 hc
  have hrs : (s.extract 0 (s.size - 1)).size ≤ 1000000 := Nat.le_trans (extract_le _ _ _) hs
  have hX0 := heap_alloc_new w (.cells zs18 23)
  have hB0 : Below w.heap.size w (w.alloc (.cells zs18 23)) := (Below.refl _ w).alloc (Nat.le_refl _) _
  have CC := refCut_any (s.extract 0 (s.size - 1)) hrs (w.alloc (.cells zs18 23))
  have hle : ∀ x ∈ splitL (s.extract 0 (s.size - 1)).data.toList, x.length ≤ 1000000 := fun x hx => by
    have := split_le _ x hx
    rw [← size_is] at this; omega
  have hwl := split_count (s.extract 0 (s.size - 1)).data.toList
  rw [← size_is] at hwl
  have hpos := List.length_pos_iff.2 (splitL_ne (s.extract 0 (s.size - 1)).data.toList)
  obtain ⟨ws, hws⟩ : ∃ ws, splitL (s.extract 0 (s.size - 1)).data.toList = ws := ⟨_, rfl⟩
  rw [hws] at hset CC hle hwl hpos h18
  have hwl1 : ws.length ≤ 1000001 := by omega
  unfold zs18 at hX0 hB0 CC
  have hse : ¬ s = ByteArray.empty := by rintro rfl; exact absurd h0 (by decide)
  have hsz0 : ((s.size : Int) == 0) = false := by rw [beq_eq_false_iff_ne]; omega
  have hi1 : ((s.size : Int) - 1) < s.size := by omega
  have hi0 : (0 : Int) ≤ (s.size : Int) - 1 := by omega
  have hi2 : ((s.size : Int) - 1) ≤ s.size := by omega
  have hw : IntKind.i64.wrap ((s.size : Int) - 1) = (s.size : Int) - 1 := IntWalk.i64_in _ (by omega)
  have ht : ((s.size : Int) - 1).toNat = s.size - 1 := by omega
  have hne : ((ws.length : Int) != 18) = false := by rw [h18]; rfl
  have HSET := Lib.hid hset
  have HLE := Lib.hid hle
  have HPOS := Lib.hid hpos
  have HWL := Lib.hid hwl1
  have H18 := Lib.hid h18
  have KX0 := Lib.hid hX0
  have KB0 := Lib.hid hB0
  have HCC := Lib.hid CC
  clear hset hle hpos hwl hwl1 h18 hX0 hB0 CC hws hrs
  go_enter Tryd.func10, Tryd.ntmps10
  go_wp2_with (go_at_call 26; refine HCC.out.mono ?_; clear HCC; rintro e W2 ⟨v, rfl, how, hb2⟩; obtain ⟨g, cc, rfl, hc1, hc2, hg1, hg2, hcells⟩ := row_str how HPOS.out; have HN2 := Lib.hid ((hb2.block _ (Array.getElem?_eq_some_iff.1 KX0.out).1).trans KX0.out); have HB2 := Lib.hid (KB0.out.trans (hb2.mono KB0.out.size)); have HC1 := Lib.hid hc1; have HC2 := Lib.hid hc2; have HG2 := Lib.hid hg2; have HCS := Lib.hid hcells; clear hb2 how hc1 hc2 hg1 hg2 hcells KB0 KX0)
  have hB23 : Below W2.heap.size W2 (W2.alloc (.cells zs18 23)) := (Below.refl _ _).alloc (Nat.le_refl _) _
  have hX3 := heap_alloc_new W2 (.cells zs18 23)
  have hz3 := World.size_alloc W2 (.cells zs18 23)
  unfold zs18 at hB23 hX3 hz3
  obtain ⟨W3, hW3⟩ : ∃ W3, W2.alloc (.cells #[.int .i64 0, .int .i64 0, .int .i64 0, .int .i64 0, .int .i64 0, .int .i64 0, .int .i64 0, .int .i64 0, .int .i64 0, .int .i64 0, .int .i64 0, .int .i64 0, .int .i64 0, .int .i64 0, .int .i64 0, .int .i64 0, .int .i64 0, .int .i64 0] 23) = W3 := ⟨_, rfl⟩
  rw [hW3] at hB23 hX3 hz3 ⊢
  clear hW3
  have hN3 := (hB23.block _ (Array.getElem?_eq_some_iff.1 HN2.out).1).trans HN2.out
  have hcs3 : ∀ j x, ws[j]? = some x → W3.cell? ⟨g, j, none⟩ = some (.string ⟨x.toArray⟩) := fun j x hj => cell_below (HCS.out j x hj) hB23
  have hB3 := HB2.out.trans (hB23.mono HB2.out.size)
  have hgX : g ≠ W2.heap.size := by have := HG2.out; omega
  have hwX : w.heap.size ≠ W2.heap.size := by have := (Array.getElem?_eq_some_iff.1 HN2.out).1; omega
  have hwX2 : w.heap.size ≤ W2.heap.size := HB2.out.size
  obtain ⟨X, hX⟩ : ∃ X, W2.heap.size = X := ⟨_, rfl⟩
  rw [hX] at hX3 hz3 hgX hwX hwX2 ⊢
  clear hX hB23
  refine (refFields_any X W3).mono ?_
  rintro e W4 ⟨rfl, hg4, hB4⟩
  have hpX : W3.heap.size ≠ X := by omega
  have HP4 := Lib.hid hg4
  have HX4 := Lib.hid ((hB4.block _ (Array.getElem?_eq_some_iff.1 hX3).1).trans hX3)
  have HN4 := Lib.hid ((hB4.block _ (Array.getElem?_eq_some_iff.1 hN3).1).trans hN3)
  have HCS4 := Lib.hid (fun j x hj => cell_below (hcs3 j x hj) hB4)
  have HB4 := Lib.hid (hB3.trans (hB4.mono hB3.size))
  have HGX := Lib.hid hgX
  have HWX := Lib.hid hwX
  have HWX2 := Lib.hid hwX2
  have HPX := Lib.hid hpX
  obtain ⟨p, hp⟩ : ∃ p, W3.heap.size = p := ⟨_, rfl⟩
  rw [hp] at HP4 HPX ⊢
  have hccm : cc ≤ 9223372036854775807 := by have := HC2.out; unfold maxLen at this; omega
  have hcc1 : ws.length ≤ cc := HC1.out
  have HCM := Lib.hid hccm
  have HC3 := Lib.hid hcc1
  clear hX3 hN3 hcs3 hB3 hgX hwX hwX2 hg4 hB4 hpX hp hz3 HN2 HB2 HC1 HC2 HG2 HCS hccm hcc1
  go_wp2_with fail
  go_loopw [7] (fun v7 wr => ∃ (k : Nat) (ns : List Int), k ≤ ws.length ∧ v7 = .int .i64 k ∧ numsL (ws.take k) = some ns ∧ ns.length = k ∧ wr.heap[X]? = some (.cells (setN zs18.toList ns).toArray 23 (0, 0)) ∧ Keeps X W4 wr) (fun v7 _ => ws.length - (intOf v7).toNat)
  case atStart => exact ⟨0, [], by omega, rfl, rfl, rfl, HX4.out, Keeps.refl _ _⟩
  case round =>
    obtain ⟨k, ns, hk, rfl, hns, hnl, hXr, hK⟩ := hrel
    have HNS := Lib.hid hns
    have HNL := Lib.hid hnl
    have HXR := Lib.hid hXr
    have HK := Lib.hid hK
    have hN5 : wr.heap[w.heap.size]? = some (.cells zs18 23 (0, 0)) := (HK.out.block _ (Array.getElem?_eq_some_iff.1 HN4.out).1 HWX.out).trans HN4.out
    have HNR := Lib.hid hN5
    clear hns hnl hXr hK hN5
    by_cases hkw : k < ws.length
    · have hki : (k : Int) < ws.length := by omega
      have hki18 : (k : Int) < 18 := by have := H18.out; omega
      obtain ⟨l, hl⟩ : ∃ l, ws[k]? = some l := ⟨ws[k], List.getElem?_eq_getElem hkw⟩
      have cS := HK.out.cell (HCS4.out k l hl) HGX.out
      have cP : wr.cell? ⟨p, k, none⟩ = some (.pointer (some ⟨X, k, none⟩)) := HK.out.cell (by rw [cell_at HP4.out]; exact ptrs18_get _ _ (by have := H18.out; omega)) HPX.out
      have hll := HLE.out l (List.mem_of_getElem? hl)
      have CN := refNumber_any ⟨l.toArray⟩ (by rw [size_is]; exact hll) wr
      have hdl : (ByteArray.mk l.toArray).data.toList = l := rfl
      unfold NumPost at CN
      rw [hdl] at CN
      have HLL := Lib.hid hl
      have hccm : cc ≤ 9223372036854775807 := HCM.out
      have hcc1 : ws.length ≤ cc := HC3.out
      clear hl hll hdl
      cases hn : numL l with
      | none =>
        rw [hn] at CN
        have HN := Lib.hid hn
        have HCN := Lib.hid CN
        clear hn CN
        go_wp2_with (first | (go_at_call 28; refine HCN.out.mono ?_; rintro e w2 ⟨rfl, hb2⟩; have HN5 := Lib.hid ((hb2.block _ (Array.getElem?_eq_some_iff.1 HNR.out).1).trans HNR.out); have HB5 := Lib.hid hb2; clear hb2) | (refine wpList_store23 rfl (.tmp 2) (.tmp 51) rfl w.heap.size rfl zs18 rfl zs18 HN5.out rfl rfl zs18_one ?_))
        exact bodyPost_ret (results_cell_tmp Tryd.results10 _ _ w.heap.size 23 zs18 (0, 0) _ (.bool false) rfl rfl (setRow_heap _ _ _ _ _ _ HN5.out) Tryd.underlying23 rfl (by kernel_rfl)) rfl
          (setPost_none (HSET.out.trans ((if_pos H18.out).trans (nums_bad ws k l HLL.out HN.out))) (below_setRow (HB4.out.trans ((HK.out.trans (Keeps.of_below HB5.out)).below HB4.out.size HWX2.out)) (Nat.le_refl _) _))
      | some n =>
        rw [hn] at CN
        have HN := Lib.hid hn
        have HCN := Lib.hid CN
        clear hn CN
        obtain ⟨vk, hvk⟩ : ∃ vk, (setN zs18.toList ns)[k]? = some vk := ⟨(setN zs18.toList ns)[k]'(by unfold setN zs18; simp; have := HNL.out; have := H18.out; omega), List.getElem?_eq_getElem _⟩
        have HVK := Lib.hid hvk
        have HCP := Lib.hid cP
        clear hvk
        go_wp2_with (go_at_call 28; refine HCN.out.mono ?_; rintro e w2 ⟨rfl, hb2⟩; have cP2 := cell_below HCP.out hb2; have hX2 := (hb2.block X (Array.getElem?_eq_some_iff.1 HXR.out).1).trans HXR.out; have cX2 : w2.cell? ⟨X, k, none⟩ = some vk := (by rw [Lib.cell_of_heap hX2]; simpa using HVK.out); have fX2 : w2.frozen? ⟨X, k, none⟩ = false := Lib.frozen_of_heap hX2 k; have HX2 := Lib.hid hX2; have HB5 := Lib.hid hb2; clear hX2 hb2)
        go_roundw
        case rel =>
          refine ⟨k + 1, ns ++ [n], by omega, by go_num, ?_, by simp; exact HNL.out, ?_, (HK.out.trans (Keeps.of_below HB5.out)).trans (Keeps.setCell _ _ _)⟩
          · rw [List.take_add_one, HLL.out, Option.toList_some, nums_snoc, HNS.out, HN.out]
          · have h := at_set (o := k) HX2.out (.int .i64 n)
            have e := HNL.out
            have e18 := H18.out
            rw [← setN_set _ ns _ (by show _ < 18; omega), e]
            exact h
        case measure => simp [intOf]; omega
    · have hki : ¬ (k : Int) < ws.length := by omega
      have hns := HNS.out
      rw [List.take_of_length_le (by omega)] at hns
      obtain ⟨f, hf, hok⟩ := eighteen ns ((nums_length _ _ hns).trans H18.out) (nums_bounds _ _ hns)
      subst hf
      have HQ := Lib.hid hns
      have HOK := Lib.hid hok
      have HX5 := Lib.hid (show wr.heap[X]? = some (.cells (cfgA f) 23 (0, 0)) from HXR.out)
      have HN5 := HNR
      clear hns hok HNS HNL HXR
      go_wp2_with (first | (refine wpList_store23 rfl (.tmp 2) (.tmp 58) rfl w.heap.size rfl (cfgA f) rfl zs18 HN5.out rfl rfl (cfgA_one f) ?_) | (refine wpList_load23 rfl (.tmp 5) rfl X rfl _ HX5.out (cfgA_size f) ?_))
      refine bodyPost_ret (results_cell_tmp Tryd.results10 _ _ w.heap.size 23 (cfgA f) (0, 0) _ (.bool true) rfl rfl (setRow_heap _ _ _ _ _ _ HN5.out) Tryd.underlying23 rfl (by kernel_rfl)) rfl ?_
      refine ⟨below_setRow (HB4.out.trans (HK.out.below HB4.out.size HWX2.out)) (Nat.le_refl _) _, ?_⟩
      rw [HSET.out, if_pos H18.out, HQ.out]
      exact ⟨f, rfl, HOK.out, rfl⟩

theorem refSet_any (s : ByteArray) (hs : s.size ≤ 1000000) (w : World) : Calls Tryd.prog 10 #[.string s] w (SetPost s.data.toList w) := by
  by_cases h0 : 0 < s.size
  · by_cases hc : s[s.size - 1] = 10
    · by_cases h18 : (splitL (s.extract 0 (s.size - 1)).data.toList).length = 18
      · exact refSet_yes s hs h0 hc h18 w
      · exact refSet_count s hs h0 hc h18 w
    · refine refSet_noEnd s hs h0 _ rfl (fun e => hc (u8_10 _ e)) ?_ w
      refine setL_noEnd ?_
      rw [Bool.eq_false_iff]
      intro hh
      obtain ⟨t, ht⟩ := List.isSuffixOf_iff_suffix.1 (show ([10] : List UInt8).isSuffixOf s.data.toList = true from hh)
      have hz := size_is s
      have h1 := Lib.getD_at s (s.size - 1) (by omega)
      have h2 : s.size - 1 = t.length := by rw [hz, ← ht]; simp
      have h3 : s.data.toList.getD (s.size - 1) 0 = 10 := by
        rw [List.getD_eq_getElem?_getD, ← ht, h2, List.getElem?_append_right (Nat.le_refl _), Nat.sub_self]
        rfl
      exact hc (h1.trans h3)
  · have hz := size_is s
    have hse : s = ByteArray.empty := by
      have : s.data.toList = [] := List.length_eq_zero_iff.1 (by omega)
      have : s.data = #[] := by simpa using this
      cases s; simp_all [ByteArray.empty, ByteArray.emptyWithCapacity]
    subst hse
    exact refSet_empty w
end Go.Proofs.YtnollfnjidbdcaaDoor.X

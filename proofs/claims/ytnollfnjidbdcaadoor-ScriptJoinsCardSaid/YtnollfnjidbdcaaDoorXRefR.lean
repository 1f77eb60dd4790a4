/- The reference's ReadLine. -/
import Derived.Test.YtnollfnjidbdcaaDoorXRefK
import Derived.Test.YtnollfnjidbdcaaDoorXRefC
import Derived.Test.YtnollfnjidbdcaaDoorXParse
namespace Go.Proofs.YtnollfnjidbdcaaDoor.X
open Go.RowKit
set_option linter.unusedSimpArgs false
set_option linter.unusedVariables false

theorem row_str {W : World} {lo : Nat} {v : Value} {ws : List (List UInt8)} (h : W.ownsRow lo 9 1 v ws.length (strVs ws)) (hne : 0 < ws.length) :
    ∃ g c, v = .slice (some ⟨g, 0, none⟩) ws.length c ∧ ws.length ≤ c ∧ c ≤ maxLen ∧ lo ≤ g ∧ g < W.heap.size ∧ ∀ j x, ws[j]? = some x → W.cell? ⟨g, j, none⟩ = some (.string ⟨x.toArray⟩) := by
  rcases h.2 with ⟨h1, h0⟩ | ⟨g, cap, cur, h1, h2, h3, h4, h5, _⟩
  · omega
  · subst h1
    refine ⟨g, cap, rfl, h4, h5, h2, (Array.getElem?_eq_some_iff.1 h3).1, fun j x hj => ?_⟩
    have hl : j < ws.length * 1 := by have := (List.getElem?_eq_some_iff.1 hj).1; omega
    rw [h.cellAt j hl]
    unfold strVs
    rw [List.getElem?_map, hj]
    rfl
theorem one_count (l : List UInt8) (h : (splitL l).length ≠ 4) : oneL l = none := by
  unfold oneL
  split
  · rename_i hn
    have h1 := nums_length _ _ hn
    rw [List.length_dropLast] at h1
    simp only [List.length_cons, List.length_nil] at h1
    omega
  · rfl
theorem one_four (l : List UInt8) (x0 x1 x2 x3 : List UInt8) (h : splitL l = [x0, x1, x2, x3]) : oneL l = match unhexL x3, numsL [x0, x1, x2] with
    | some d, some [k, a, b] => some ⟨k, a, b, d⟩
    | _, _ => none := by
  unfold oneL
  rw [h]
  rfl
theorem one_noNums {l : List UInt8} {x0 x1 x2 x3 : List UInt8} (h : splitL l = [x0, x1, x2, x3]) (hn : numsL [x0, x1, x2] = none) : oneL l = none := by
  rw [one_four l _ _ _ _ h, hn]
  split
  · rename_i e; cases e
  · rfl
theorem one_noHex {l : List UInt8} {x0 x1 x2 x3 : List UInt8} (h : splitL l = [x0, x1, x2, x3]) (hn : unhexL x3 = none) : oneL l = none := by
  rw [one_four l _ _ _ _ h, hn]

theorem cut_four (l : List (List UInt8)) (h : l.length = 4) : ∃ x0 x1 x2 x3, l = [x0, x1, x2, x3] := by
  match l, h with
  | [x0, x1, x2, x3], _ => exact ⟨x0, x1, x2, x3, rfl⟩

set_option maxHeartbeats 2000000 in
set_option maxRecDepth 100000 in
theorem refReadLine_count (s : ByteArray) (hs : s.size ≤ 1000000) (h4 : (splitL s.data.toList).length ≠ 4) (w : World) : Calls Tryd.prog 18 #[.string s] w (OnePost s.data.toList w) := by
  have HBAD := Lib.hid (one_count _ h4)
  have hB0 : Below w.heap.size w (w.alloc (.cells #[.int .i64 0, .int .i64 0, .int .i64 0, .slice none 0 0] 39)) := (Below.refl _ w).alloc (Nat.le_refl _) _
  have hX0 := heap_alloc_new w (.cells #[.int .i64 0, .int .i64 0, .int .i64 0, .slice none 0 0] 39)
  have CC := Lib.hid (refCut_any s hs (w.alloc (.cells #[.int .i64 0, .int .i64 0, .int .i64 0, .slice none 0 0] 39)))
  obtain ⟨m, hm⟩ : ∃ m, (splitL s.data.toList).length = m := ⟨_, rfl⟩
  rw [hm] at CC h4
  have hne : ((m : Int) != 4) = true := by rw [bne_iff_ne]; omega
  have KB0 := Lib.hid hB0
  have KX0 := Lib.hid hX0
  clear h4 hm hB0 hX0
  go_enter Tryd.func18, Tryd.ntmps18
  go_wp2_with (go_at_call 26; refine CC.out.mono ?_; rintro e W2 ⟨v, rfl, how, hb2⟩; have hN2 := (hb2.block _ (Array.getElem?_eq_some_iff.1 KX0.out).1).trans KX0.out; have n0 := at4 hN2 0 rfl; have n1 := at4 hN2 1 rfl; have n2 := at4 hN2 2 rfl; have n3 := at4 hN2 3 rfl; have fN := Lib.frozen_of_heap hN2; have HN2 := Lib.hid hN2; have HB2 := Lib.hid hb2; obtain ⟨va, vc, rfl⟩ := own_shape1 how; clear hN2 hb2 how)
  have hB5 := KB0.out.trans (HB2.out.mono KB0.out.size)
  exact bodyPost_ret (results_cell_tmp Tryd.results18 _ _ w.heap.size 39 #[.int .i64 0, .int .i64 0, .int .i64 0, .slice none 0 0] (0, 0) _ (.bool false) rfl rfl (at_set (o := 3) (at_set (o := 2) (at_set (o := 1) (at_set (o := 0) HN2.out _) _) _) _) Tryd.underlying39 rfl (by kernel_rfl)) rfl
      (onePost_none HBAD.out ((((hB5.setCell (p := ⟨w.heap.size, 0, none⟩) (Nat.le_refl _) _).setCell (p := ⟨w.heap.size, 1, none⟩) (Nat.le_refl _) _).setCell (p := ⟨w.heap.size, 2, none⟩) (Nat.le_refl _) _).setCell (p := ⟨w.heap.size, 3, none⟩) (Nat.le_refl _) _))
set_option maxHeartbeats 2000000 in
set_option maxRecDepth 100000 in
theorem refReadLine_four (s : ByteArray) (hs : s.size ≤ 1000000) (x0 x1 x2 x3 : List UInt8) (hw : splitL s.data.toList = [x0, x1, x2, x3]) (w : World) : Calls Tryd.prog 18 #[.string s] w (OnePost s.data.toList w) := by
  have hB0 : Below w.heap.size w (w.alloc (.cells #[.int .i64 0, .int .i64 0, .int .i64 0, .slice none 0 0] 39)) := (Below.refl _ w).alloc (Nat.le_refl _) _
  have hX0 := heap_alloc_new w (.cells #[.int .i64 0, .int .i64 0, .int .i64 0, .slice none 0 0] 39)
  have CC := refCut_any s hs (w.alloc (.cells #[.int .i64 0, .int .i64 0, .int .i64 0, .slice none 0 0] 39))
  have hle : ∀ x ∈ [x0, x1, x2, x3], x.length ≤ 1000000 := fun x hx => by
    have := split_le s.data.toList x (by rw [hw]; exact hx)
    rw [← size_is] at this; omega
  rw [hw] at CC
  have HW := Lib.hid hw
  have HL := Lib.hid hle
  have KB0 := Lib.hid hB0
  have KX0 := Lib.hid hX0
  have HCC := Lib.hid CC
  clear hw hle hB0 hX0 CC
  go_enter Tryd.func18, Tryd.ntmps18
  go_wp2_with (go_at_call 26; refine HCC.out.mono ?_; rintro e W2 ⟨v, rfl, how, hb2⟩; obtain ⟨g, cc, rfl, hc1, hc2, hg1, hg2, hcells⟩ := row_str how (by simp); have HN2 := Lib.hid ((hb2.block _ (Array.getElem?_eq_some_iff.1 KX0.out).1).trans KX0.out); have HB2 := Lib.hid (KB0.out.trans (hb2.mono KB0.out.size)); have HC1 := Lib.hid hc1; have HC2 := Lib.hid hc2; have HG1 := Lib.hid hg1; have HG2 := Lib.hid hg2; have HCS := Lib.hid hcells; clear hb2 how hc1 hc2 hg1 hg2 hcells)
  obtain ⟨W3, hW3⟩ : ∃ W3, W2.alloc (.cells #[.int .i64 0, .int .i64 0, .int .i64 0] 72) = W3 := ⟨_, rfl⟩
  have hB23 : Below W2.heap.size W2 W3 := by rw [← hW3]; exact (Below.refl _ _).alloc (Nat.le_refl _) _
  have hY3 : W3.heap[W2.heap.size]? = some (.cells #[.int .i64 0, .int .i64 0, .int .i64 0] 72 (0, 0)) := by rw [← hW3]; exact heap_alloc_new W2 _
  have hN3 := (hB23.block _ (Array.getElem?_eq_some_iff.1 HN2.out).1).trans HN2.out
  have hcs3 : ∀ j x, [x0, x1, x2, x3][j]? = some x → W3.cell? ⟨g, j, none⟩ = some (.string ⟨x.toArray⟩) := fun j x hj => cell_below (HCS.out j x hj) hB23
  have hg2 := HG2.out
  have hgy : g ≠ W2.heap.size := by omega
  have hny : w.heap.size ≠ W2.heap.size := by have := (Array.getElem?_eq_some_iff.1 HN2.out).1; omega
  have hB3 := HB2.out.trans (hB23.mono HB2.out.size)
  have hwy : w.heap.size ≤ W2.heap.size := HB2.out.size
  obtain ⟨Y, hY⟩ : ∃ Y, W2.heap.size = Y := ⟨_, rfl⟩
  rw [hY] at hY3 hgy hny hwy ⊢
  have HC4 := Lib.hid (show 4 ≤ cc from HC1.out)
  have hcc : (4 : Nat) ≤ cc := HC4.out
  have hcm : cc ≤ 9223372036854775807 := by have := HC2.out; unfold maxLen at this; omega
  rw [hW3]
  have HY3 := Lib.hid hY3
  have HN3 := Lib.hid hN3
  have HCS3 := Lib.hid hcs3
  have HB3 := Lib.hid hB3
  have HYN := Lib.hid (And.intro hgy hny)
  have HWY := Lib.hid hwy
  have ONE := Lib.hid fun hn => one_noNums (l := s.data.toList) HW.out hn
  clear hW3 hB23 hY3 hN3 hcs3 hg2 hgy hny hB3 hwy hY HCC HCS HN2 HB2 HG1 HG2 HC1 HC2 KB0 KX0 hcc hcm HC4
  go_loopw [6] (fun v6 wr => ∃ (k : Nat) (ns : List Int), k ≤ 3 ∧ v6 = .int .i64 k ∧ numsL ([x0, x1, x2].take k) = some ns ∧ ns.length = k ∧ wr.heap[Y]? = some (.cells (setN [.int .i64 0, .int .i64 0, .int .i64 0] ns).toArray 72 (0, 0)) ∧ Keeps Y W3 wr) (fun v6 _ => 3 - (intOf v6).toNat)
  case atStart => exact ⟨0, [], by omega, rfl, rfl, rfl, HY3.out, Keeps.refl _ _⟩
  case round =>
    obtain ⟨k, ns, hk, rfl, hns, hnl, hYr, hK⟩ := hrel
    have HNS := Lib.hid hns
    have HNL := Lib.hid hnl
    have HYR := Lib.hid hYr
    have HK := Lib.hid hK
    clear hns hnl hYr hK
    by_cases hk3 : k < 3
    · have hki : (k : Int) < 3 := by omega
      have hki4 : (k : Int) < 4 := by omega
      obtain ⟨l, hl⟩ : ∃ l, [x0, x1, x2][k]? = some l := ⟨[x0, x1, x2][k]'hk3, List.getElem?_eq_getElem _⟩
      have hl4 : [x0, x1, x2, x3][k]? = some l := by
        match k, hk3, hl with
        | 0, _, hl => exact hl
        | 1, _, hl => exact hl
        | 2, _, hl => exact hl
      have cS := HK.out.cell (HCS3.out k l hl4) HYN.out.1
      have hll := HL.out l (List.mem_of_getElem? hl4)
      have CN := refNumber_any ⟨l.toArray⟩ (by rw [size_is]; exact hll) wr
      have hdl : (ByteArray.mk l.toArray).data.toList = l := rfl
      unfold NumPost at CN
      rw [hdl] at CN
      have HLL := Lib.hid hl
      have nR : wr.heap[w.heap.size]? = some (.cells #[.int .i64 0, .int .i64 0, .int .i64 0, .slice none 0 0] 39 (0, 0)) := (HK.out.block _ (Array.getElem?_eq_some_iff.1 HN3.out).1 HYN.out.2).trans HN3.out
      have HNR := Lib.hid nR
      clear hl hl4 hll hdl nR
      cases hn : numL l with
      | none =>
        rw [hn] at CN
        have HN := Lib.hid hn
        have HCN := Lib.hid CN
        clear hn CN
        go_wp2_with (go_at_call 28; refine HCN.out.mono ?_; rintro e w2 ⟨rfl, hb2⟩; have hN4 := (hb2.block _ (Array.getElem?_eq_some_iff.1 HNR.out).1).trans HNR.out; have n0 := at4 hN4 0 rfl; have n1 := at4 hN4 1 rfl; have n2 := at4 hN4 2 rfl; have n3 := at4 hN4 3 rfl; have fN := Lib.frozen_of_heap hN4; have HN4 := Lib.hid hN4; have HB4 := Lib.hid hb2; clear hN4 hb2)
        have hB5 := HB3.out.trans ((HK.out.trans (Keeps.of_below HB4.out)).below HB3.out.size HWY.out)
        exact bodyPost_ret (results_cell_tmp Tryd.results18 _ _ w.heap.size 39 #[.int .i64 0, .int .i64 0, .int .i64 0, .slice none 0 0] (0, 0) _ (.bool false) rfl rfl (at_set (o := 3) (at_set (o := 2) (at_set (o := 1) (at_set (o := 0) HN4.out _) _) _) _) Tryd.underlying39 rfl (by kernel_rfl)) rfl
          (onePost_none (ONE.out (nums_bad _ k l HLL.out HN.out)) ((((hB5.setCell (p := ⟨w.heap.size, 0, none⟩) (Nat.le_refl _) _).setCell (p := ⟨w.heap.size, 1, none⟩) (Nat.le_refl _) _).setCell (p := ⟨w.heap.size, 2, none⟩) (Nat.le_refl _) _).setCell (p := ⟨w.heap.size, 3, none⟩) (Nat.le_refl _) _))
      | some n =>
        rw [hn] at CN
        have HN := Lib.hid hn
        have HCN := Lib.hid CN
        clear hn CN
        obtain ⟨vk, hvk⟩ : ∃ vk, (setN [.int .i64 0, .int .i64 0, .int .i64 0] ns)[k]? = some vk := ⟨(setN [.int .i64 0, .int .i64 0, .int .i64 0] ns)[k]'(by unfold setN; simp; have := HNL.out; omega), List.getElem?_eq_getElem _⟩
        have HVK := Lib.hid hvk
        clear hvk
        go_wp2_with (go_at_call 28; refine HCN.out.mono ?_; rintro e w2 ⟨rfl, hb2⟩; have hX2 := (hb2.block Y (Array.getElem?_eq_some_iff.1 HYR.out).1).trans HYR.out; have cX2 : w2.cell? ⟨Y, k, none⟩ = some vk := (by rw [Lib.cell_of_heap hX2]; simpa using HVK.out); have fX2 : w2.frozen? ⟨Y, k, none⟩ = false := Lib.frozen_of_heap hX2 k; have HX2 := Lib.hid hX2; have HB4 := Lib.hid hb2; clear hX2 hb2)
        go_roundw
        case rel =>
          refine ⟨k + 1, ns ++ [n], by omega, by go_num, ?_, by simp; exact HNL.out, ?_, (HK.out.trans (Keeps.of_below HB4.out)).trans (Keeps.setCell _ _ _)⟩
          · rw [List.take_add_one, HLL.out, Option.toList_some, nums_snoc, HNS.out, HN.out]
          · have h := at_set (o := k) HX2.out (.int .i64 n)
            have e := HNL.out
            rw [← setN_set _ ns _ (by simp; omega), e]
            exact h
        case measure => simp [intOf]; omega
    · have hk' : k = 3 := by omega
      subst hk'
      have hki : ¬ (3 : Int) < 3 := by omega
      clear hk3 hk
      obtain ⟨m0, m1, m2, hm⟩ : ∃ m0 m1 m2, ns = [m0, m1, m2] := by
        match ns, HNL.out with
        | [m0, m1, m2], _ => exact ⟨m0, m1, m2, rfl⟩
      subst hm
      have hns3 : numsL [x0, x1, x2] = some [m0, m1, m2] := HNS.out
      have hoks := nums_bounds _ _ hns3
      have yR : wr.heap[Y]? = some (.cells #[.int .i64 m0, .int .i64 m1, .int .i64 m2] 72 (0, 0)) := HYR.out
      have nR : wr.heap[w.heap.size]? = some (.cells #[.int .i64 0, .int .i64 0, .int .i64 0, .slice none 0 0] 39 (0, 0)) := (HK.out.block _ (Array.getElem?_eq_some_iff.1 HN3.out).1 HYN.out.2).trans HN3.out
      have cS := HK.out.cell (HCS3.out 3 x3 rfl) HYN.out.1
      have CB := refBytes_any ⟨x3.toArray⟩ (by rw [size_is]; exact HL.out x3 (by simp)) wr
      have hdl : (ByteArray.mk x3.toArray).data.toList = x3 := rfl
      unfold BytesPost at CB
      rw [hdl] at CB
      have HOKS := Lib.hid hoks
      have HY := Lib.hid yR
      have HNR := Lib.hid nR
      have HBR := Lib.hid (HB3.out.trans (HK.out.below HB3.out.size HWY.out))
      have FOUR := Lib.hid (one_four s.data.toList _ _ _ _ HW.out)
      have HN3' := Lib.hid hns3
      clear hoks yR nR hdl hns3 HYR HNS HNL
      cases hu : unhexL x3 with
      | none =>
        rw [hu] at CB
        have HU := Lib.hid (one_noHex HW.out hu)
        have HCB := Lib.hid CB
        clear hu CB
        go_wp2_with (go_at_call 35; refine HCB.out.mono ?_; rintro e w2 ⟨hb2, rfl⟩; have hN4 := (hb2.block _ (Array.getElem?_eq_some_iff.1 HNR.out).1).trans HNR.out; have n0 := at4 hN4 0 rfl; have n1 := at4 hN4 1 rfl; have n2 := at4 hN4 2 rfl; have n3 := at4 hN4 3 rfl; have fN := Lib.frozen_of_heap hN4; have HN4 := Lib.hid hN4; have HB4 := Lib.hid hb2; clear hN4 hb2)
        have hB5 := HBR.out.trans (HB4.out.mono HBR.out.size)
        exact bodyPost_ret (results_cell_tmp Tryd.results18 _ _ w.heap.size 39 #[.int .i64 0, .int .i64 0, .int .i64 0, .slice none 0 0] (0, 0) _ (.bool false) rfl rfl (at_set (o := 3) (at_set (o := 2) (at_set (o := 1) (at_set (o := 0) HN4.out _) _) _) _) Tryd.underlying39 rfl (by kernel_rfl)) rfl
          (onePost_none HU.out ((((hB5.setCell (p := ⟨w.heap.size, 0, none⟩) (Nat.le_refl _) _).setCell (p := ⟨w.heap.size, 1, none⟩) (Nat.le_refl _) _).setCell (p := ⟨w.heap.size, 2, none⟩) (Nat.le_refl _) _).setCell (p := ⟨w.heap.size, 3, none⟩) (Nat.le_refl _) _))
      | some d =>
        rw [hu] at CB
        have HU := Lib.hid (show oneL s.data.toList = some ⟨m0, m1, m2, d⟩ by rw [FOUR.out, hu, HN3'.out])
        have HCB := Lib.hid CB
        clear hu CB
        go_wp2_with (go_at_call 35; refine HCB.out.mono ?_; rintro e w2 ⟨hb2, v, rfl, how⟩; have hN4 := (hb2.block _ (Array.getElem?_eq_some_iff.1 HNR.out).1).trans HNR.out; have hY4 := (hb2.block _ (Array.getElem?_eq_some_iff.1 HY.out).1).trans HY.out; have y0 : w2.cell? ⟨Y, 0, none⟩ = some (.int .i64 m0) := at4 hY4 0 rfl; have y1 : w2.cell? ⟨Y, 1, none⟩ = some (.int .i64 m1) := at4 hY4 1 rfl; have y2 : w2.cell? ⟨Y, 2, none⟩ = some (.int .i64 m2) := at4 hY4 2 rfl; have n0 := at4 hN4 0 rfl; have n1 := at4 hN4 1 rfl; have n2 := at4 hN4 2 rfl; have n3 := at4 hN4 3 rfl; have fN := Lib.frozen_of_heap hN4; obtain ⟨va, vc, rfl⟩ := own_shape1 how; have HOW := Lib.hid how; have HN4 := Lib.hid hN4; have HB4 := Lib.hid hb2; clear hN4 hY4 hb2 how)
        have hB5 := HBR.out.trans (HB4.out.mono HBR.out.size)
        have hlt : w.heap.size ≤ wr.heap.size := HBR.out.size
        have hn : w.heap.size < wr.heap.size := (Array.getElem?_eq_some_iff.1 HNR.out).1
        refine bodyPost_ret (results_cell_tmp Tryd.results18 _ _ w.heap.size 39 #[.int .i64 m0, .int .i64 m1, .int .i64 m2, .slice va d.length vc] (0, 0) _ (.bool true) rfl rfl (at_set (o := 3) (at_set (o := 2) (at_set (o := 1) (at_set (o := 0) HN4.out _) _) _) _) Tryd.underlying39 rfl (by kernel_rfl)) rfl ?_
        refine ⟨(((hB5.setCell (p := ⟨w.heap.size, 0, none⟩) (Nat.le_refl _) _).setCell (p := ⟨w.heap.size, 1, none⟩) (Nat.le_refl _) _).setCell (p := ⟨w.heap.size, 2, none⟩) (Nat.le_refl _) _).setCell (p := ⟨w.heap.size, 3, none⟩) (Nat.le_refl _) _, ?_⟩
        rw [HU.out]
        refine ⟨_, rfl, ownsRow_mono hlt (own_kept HOW.out ?_), HOKS.out _ (by simp), HOKS.out _ (by simp), HOKS.out _ (by simp)⟩
        intro k cur hk _
        have hkn : k ≠ w.heap.size := by omega
        exact (Below.heap_setCell _ _ _ _ hkn).trans ((Below.heap_setCell _ _ _ _ hkn).trans ((Below.heap_setCell _ _ _ _ hkn).trans (Below.heap_setCell _ _ _ _ hkn)))

theorem refReadLine_any (s : ByteArray) (hs : s.size ≤ 1000000) (w : World) : Calls Tryd.prog 18 #[.string s] w (OnePost s.data.toList w) := by
  by_cases h4 : (splitL s.data.toList).length = 4
  · obtain ⟨x0, x1, x2, x3, hx⟩ := cut_four _ h4
    exact refReadLine_four s hs x0 x1 x2 x3 hx w
  · exact refReadLine_count s hs h4 w
end Go.Proofs.YtnollfnjidbdcaaDoor.X

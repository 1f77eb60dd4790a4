/- one of package script: the step of a line. -/
import Derived.Test.YtnollfnjidbdcaaDoorXNums
import Derived.Laws.ResultCell
namespace Go.Proofs.YtnollfnjidbdcaaDoor.X
open Go.RowKit
set_option linter.unusedSimpArgs false
set_option linter.unusedVariables false

/-- Two results: a row of cells that lies in memory, and a slot. -/
theorem results_cell_tmp {P : Program} {fn : Func} {p q : Tmp} {ty : TypeId} (h : fn.results = #[.cell p ty, .tmp q]) (tmps : Array Value) (w : World) (g : Nat) (t : TypeId) (cs : Array Value) (fr : Nat × Nat) (d : TypeDesc) (x : Value)
    (hp : tmps.getD p undef = .pointer (some ⟨g, 0, none⟩)) (hq : tmps.getD q undef = x) (hg : w.heap[g]? = some (.cells cs t fr))
    (hu : P.underlying ty = some d) (hd : (match d with | .struct _ | .array _ _ => true | _ => false) = true) (hi : (P.info? ty).map (·.size) = some cs.size) :
    (results fn tmps).run P w = .ok (.tuple #[.agg cs, x]) w := by
  have hp' : tmps[p]?.getD undef = .pointer (some ⟨g, 0, none⟩) := by simpa using hp
  have hq' : tmps[q]?.getD undef = x := by simpa using hq
  simp [results, h, hp', hq', asAddr, run_loadVar_row w g t ty cs fr d hg hu hd hi]

theorem split_le : ∀ (l x : List UInt8), x ∈ splitL l → x.length ≤ l.length
  | [], x, h => by simp [splitL] at h; subst h; simp
  | c :: r, x, h => by
    unfold splitL at h
    split at h
    · rcases List.mem_cons.1 h with h | h
      · subst h; simp
      · have := split_le r x h; simp; omega
    · cases hs : splitL r with
      | nil => exact absurd hs (splitL_ne r)
      | cons a t =>
        rw [hs] at h
        rcases List.mem_cons.1 h with h | h
        · subst h
          have := split_le r a (by rw [hs]; simp)
          simp; omega
        · have := split_le r x (by rw [hs]; simp [h])
          simp; omega
theorem nums_bounds : ∀ (l : List (List UInt8)) (ns : List Int), numsL l = some ns → ∀ n ∈ ns, i64ok n
  | [], ns, h => by simp [numsL] at h; subst h; simp
  | a :: r, ns, h => by
    unfold numsL at h
    cases ha : numL a with
    | none => rw [ha] at h; cases h
    | some n =>
      rw [ha] at h
      cases hr : numsL r with
      | none => rw [hr] at h; cases h
      | some t =>
        rw [hr] at h
        simp at h
        subst h
        intro m hm
        rcases List.mem_cons.1 hm with hm | hm
        · subst hm
          unfold numL at ha
          split at ha
          · rename_i hv
            have ha := Option.some.inj ha
            subst ha
            unfold numV at hv ⊢
            cases hA : Lib.atoiAll a with
            | ok n => exact Lib.atoiAll_bounds hA
            | range => rw [hA] at hv; cases hv
            | _ => rw [hA] at hv; cases hv
          · cases ha
        · exact nums_bounds r t hr m hm

theorem getLastD_is (l : List (List UInt8)) (x : List UInt8) (p : Nat) (h : l.length = p + 1) (hx : l[p]? = some x) : l.getLastD [] = x := by
  have hne : l ≠ [] := by rintro rfl; simp at h
  rw [List.getLastD_eq_getLast?, List.getLast?_eq_getElem?, h, Nat.add_sub_cancel, hx]
  rfl
theorem split_count : ∀ l : List UInt8, (splitL l).length ≤ l.length + 1
  | [] => by simp [splitL]
  | c :: r => by
    have ih := split_count r
    unfold splitL
    split
    · simp; omega
    · cases hs : splitL r with
      | nil => simp
      | cons a t => rw [hs] at ih; simp at ih ⊢; omega
theorem at4 {w : World} {b : Nat} {cs : Array Value} {t : TypeId} {fr : Nat × Nat} (hb : w.heap[b]? = some (.cells cs t fr)) (j : Nat) {v : Value} (hv : cs[j]? = some v) : w.cell? ⟨b, j, none⟩ = some v := by
  rw [Lib.cell_of_heap hb, hv]
theorem one_nums (l d : List UInt8) (hu : unhexL ((splitL l).getLastD []) = some d) :
    (∃ k a b, (if (splitL l).dropLast.length = 3 then numsL (splitL l).dropLast else none) = some [k, a, b] ∧ oneL l = some ⟨k, a, b, d⟩ ∧ i64ok k ∧ i64ok a ∧ i64ok b) ∨
    ((if (splitL l).dropLast.length = 3 then numsL (splitL l).dropLast else none) = none ∧ oneL l = none) := by
  unfold oneL
  rw [hu]
  cases hn : numsL (splitL l).dropLast with
  | none => right; exact ⟨by split <;> rfl, rfl⟩
  | some ns =>
    have hlen := nums_length _ _ hn
    have hbd := nums_bounds _ _ hn
    by_cases h3 : (splitL l).dropLast.length = 3
    · left
      rw [h3] at hlen
      match ns, hlen with
      | [k, a, b], _ => exact ⟨k, a, b, by rw [if_pos h3], rfl, hbd _ (by simp), hbd _ (by simp), hbd _ (by simp)⟩
    · right
      refine ⟨by rw [if_neg h3], ?_⟩
      match ns, hlen with
      | [], _ => rfl
      | [_], _ => rfl
      | [_, _], _ => rfl
      | [_, _, _], h => exact absurd h.symm h3
      | _ :: _ :: _ :: _ :: _, _ => rfl
theorem dropLast_get (l : List (List UInt8)) (j : Nat) (x : List UInt8) (h : l.dropLast[j]? = some x) : l[j]? = some x := by
  rw [List.getElem?_dropLast] at h
  split at h
  · exact h
  · cases h
theorem own_shape1 {lo e sz n : Nat} {w : World} {v : Value} {xs : List Value} (h : w.ownsRow lo e sz v n xs) : ∃ ad c, v = .slice ad n c := by
  rcases h.2 with ⟨h, h0⟩ | ⟨g, cap, cur, h, _⟩
  · exact ⟨none, 0, by rw [h, h0]⟩
  · exact ⟨_, _, h⟩
theorem ownsRow_same {lo e sz n : Nat} {w w' : World} {v : Value} {xs : List Value} (h : w.ownsRow lo e sz v n xs) (hs : ∀ k, lo ≤ k → k < w.heap.size → w'.heap[k]? = w.heap[k]?) : w'.ownsRow lo e sz v n xs := by
  refine ⟨h.1, ?_⟩
  rcases h.2 with h | ⟨g, cap, cur, hv, h1, h2, r⟩
  · exact .inl h
  · exact .inr ⟨g, cap, cur, hv, h1, (hs g h1 (Array.getElem?_eq_some_iff.1 h2).1).trans h2, r⟩
theorem ownsRow_mono {lo lo' e sz n : Nat} {w : World} {v : Value} {xs : List Value} (hl : lo' ≤ lo) (h : w.ownsRow lo e sz v n xs) : w.ownsRow lo' e sz v n xs := by
  refine ⟨h.1, ?_⟩
  rcases h.2 with h | ⟨g, cap, cur, hv, h1, h2, r⟩
  · exact .inl h
  · exact .inr ⟨g, cap, cur, hv, Nat.le_trans hl h1, h2, r⟩
def OnePost (l : List UInt8) (w : World) (e : Ending) (w' : World) : Prop :=
  Below w.heap.size w w' ∧ match oneL l with
    | some x => ∃ v, e = .returned (.tuple #[.agg #[.int .i64 x.k, .int .i64 x.a, .int .i64 x.b, v], .bool true]) ∧ w'.ownsRow w.heap.size 5 1 v x.d.length (Lib.byteCells x.d) ∧ i64ok x.k ∧ i64ok x.a ∧ i64ok x.b
    | none => e = .returned (.tuple #[.agg #[.int .i64 0, .int .i64 0, .int .i64 0, .slice none 0 0], .bool false])
theorem onePost_none {l : List UInt8} {w w' : World} (h : oneL l = none) (hb : Below w.heap.size w w') : OnePost l w (.returned (.tuple #[.agg #[.int .i64 0, .int .i64 0, .int .i64 0, .slice none 0 0], .bool false])) w' := by
  refine ⟨hb, ?_⟩
  rw [h]
theorem one_noBytes {l : List UInt8} (h : unhexL ((splitL l).getLastD []) = none) : oneL l = none := by
  unfold oneL; rw [h]

set_option maxHeartbeats 2000000 in
set_option maxRecDepth 100000 in
theorem one_any (s : ByteArray) (hs : s.size ≤ 1000000) (w : World) (E : Env w) : Calls Tryd.prog 31 #[.string s] w (OnePost s.data.toList w) := by
  have E1 := (E.below ((Below.refl _ w).alloc (Nat.le_refl _) (.cells #[.int .i64 0, .int .i64 0, .int .i64 0, .slice none 0 0] 39)) E.gl)
  have hB2 : Below w.heap.size w ((w.alloc (.cells #[.int .i64 0, .int .i64 0, .int .i64 0, .slice none 0 0] 39)).alloc (.cells #[.int .i64 0, .int .i64 0, .int .i64 0, .slice none 0 0] 39)) := ((Below.refl _ w).alloc (Nat.le_refl _) _).alloc (by simp) _
  have E2 := E.below hB2 E.gl
  have CS := Lib.hid (split_any s (by omega) _ E2)
  have hX2 : ((w.alloc (.cells #[.int .i64 0, .int .i64 0, .int .i64 0, .slice none 0 0] 39)).alloc (.cells #[.int .i64 0, .int .i64 0, .int .i64 0, .slice none 0 0] 39)).heap[w.heap.size + 1]? = some (.cells #[.int .i64 0, .int .i64 0, .int .i64 0, .slice none 0 0] 39 (0, 0)) := by
    have := heap_alloc_new (w.alloc (.cells #[.int .i64 0, .int .i64 0, .int .i64 0, .slice none 0 0] 39)) (.cells #[.int .i64 0, .int .i64 0, .int .i64 0, .slice none 0 0] 39)
    rwa [World.size_alloc] at this
  have hN2 : ((w.alloc (.cells #[.int .i64 0, .int .i64 0, .int .i64 0, .slice none 0 0] 39)).alloc (.cells #[.int .i64 0, .int .i64 0, .int .i64 0, .slice none 0 0] 39)).heap[w.heap.size]? = some (.cells #[.int .i64 0, .int .i64 0, .int .i64 0, .slice none 0 0] 39 (0, 0)) := by
    rw [Below.heap_alloc _ _ _ (by simp)]
    exact heap_alloc_new w _
  have HB2 := Lib.hid hB2
  have HX2 := Lib.hid hX2
  have HN2 := Lib.hid hN2
  have HE2 := Lib.hid E2
  have EN := Lib.hid E
  clear E E1 hB2 E2 hX2 hN2
  go_enter Tryd.func31, Tryd.ntmps31
  go_wp2_with fail
  obtain ⟨W2, hW2⟩ : ∃ W2, ((w.alloc (.cells #[.int .i64 0, .int .i64 0, .int .i64 0, .slice none 0 0] 39)).alloc (.cells #[.int .i64 0, .int .i64 0, .int .i64 0, .slice none 0 0] 39)) = W2 := ⟨_, rfl⟩
  rw [hW2] at CS HB2 HX2 HN2 HE2 ⊢
  have hz2 : W2.heap.size = w.heap.size + 1 + 1 := by rw [← hW2]; simp
  clear hW2
  unfold SplitPost at CS
  rw [hz2] at CS
  obtain ⟨p, hp⟩ : ∃ p, (splitL s.data.toList).length = p + 1 := ⟨(splitL s.data.toList).length - 1, by have := List.length_pos_iff.2 (splitL_ne s.data.toList); omega⟩
  obtain ⟨last, hlast⟩ : ∃ last, (splitL s.data.toList)[p]? = some last := ⟨(splitL s.data.toList)[p]'(by omega), List.getElem?_eq_getElem _⟩
  have hgl : (splitL s.data.toList).getLastD [] = last := getLastD_is _ _ p hp hlast
  have hll : last.length ≤ 1000000 := by have := split_le _ _ (List.mem_of_getElem? hlast); rw [← size_is] at this; omega
  have hpm : p + 1 ≤ 9223372036854775807 := by have := split_count s.data.toList; rw [← size_is] at this; omega
  have HP := Lib.hid hp
  have HLA := Lib.hid hlast
  have HGL := Lib.hid hgl
  rw [hp] at CS
  clear hp hlast hgl
  refine CS.out.mono ?_
  rintro e W3 ⟨rfl, hS3, hB3⟩
  rw [← hz2] at hB3
  have cl : W3.cell? ⟨w.heap.size + 1 + 1, p, none⟩ = some (.string ⟨last.toArray⟩) := by have := hS3 p last HLA.out; rwa [Nat.zero_add] at this
  have hX3 := (hB3.block _ (Array.getElem?_eq_some_iff.1 HX2.out).1).trans HX2.out
  have hN3 := (hB3.block _ (Array.getElem?_eq_some_iff.1 HN2.out).1).trans HN2.out
  have HB3 := Lib.hid (HB2.out.trans (hB3.mono HB2.out.size))
  have HE3 := Lib.hid (HE2.out.below hB3 HE2.out.gl)
  have HS3 := Lib.hid hS3
  have HX3 := Lib.hid hX3
  have HN3 := Lib.hid hN3
  have hpw : IntKind.i64.wrap ((p : Int) + 1 - 1) = p := by rw [IntWalk.i64_in _ (by omega)]; omega
  have hpi : (p : Int) < (p : Int) + 1 := by omega
  have CU := unhex_any ⟨last.toArray⟩ (by rw [size_is]; simp; omega) W3
  unfold UnhexPost at CU
  have hdl : (ByteArray.mk last.toArray).data.toList = last := rfl
  rw [hdl] at CU
  clear hB3 hS3 hX3 hN3 CS hdl HE2 HX2 HN2 HB2
  cases hu : unhexL last with
  | none =>
    rw [hu] at CU
    have HU := Lib.hid (one_noBytes (l := s.data.toList) (by rw [HGL.out]; exact hu))
    have HCU := Lib.hid CU
    clear hu CU
    go_wp2_with (go_at_call 43; refine HCU.out.mono ?_; rintro e W4 ⟨hB4, rfl⟩; have hN4 := (hB4.block _ (Array.getElem?_eq_some_iff.1 HN3.out).1).trans HN3.out; have n0 := at4 hN4 0 rfl; have n1 := at4 hN4 1 rfl; have n2 := at4 hN4 2 rfl; have n3 := at4 hN4 3 rfl; have fN := Lib.frozen_of_heap hN4; have HN4 := Lib.hid hN4; have HB4 := Lib.hid hB4; clear hN4 hB4)
    have hB5 := HB3.out.trans (HB4.out.mono HB3.out.size)
    exact bodyPost_ret (results_cell_tmp Tryd.results31 _ _ w.heap.size 39 #[.int .i64 0, .int .i64 0, .int .i64 0, .slice none 0 0] (0, 0) _ (.bool false) rfl rfl (at_set (o := 3) (at_set (o := 2) (at_set (o := 1) (at_set (o := 0) HN4.out _) _) _) _) Tryd.underlying39 rfl (by kernel_rfl)) rfl
      (onePost_none HU.out ((((hB5.setCell (p := ⟨w.heap.size, 0, none⟩) (Nat.le_refl _) _).setCell (p := ⟨w.heap.size, 1, none⟩) (Nat.le_refl _) _).setCell (p := ⟨w.heap.size, 2, none⟩) (Nat.le_refl _) _).setCell (p := ⟨w.heap.size, 3, none⟩) (Nat.le_refl _) _))
  | some d =>
    rw [hu] at CU
    have HCU := Lib.hid CU
    have hdp : (splitL s.data.toList).dropLast.length = p := by rw [List.length_dropLast, HP.out]; omega
    have HCN := Lib.hid fun (W4 : World) (hE : Env W4) (hX : W4.heap[w.heap.size + 1]? = some (.cells #[.int .i64 0, .int .i64 0, .int .i64 0, .slice none 0 0] 39 (0, 0))) (hS : StrsAt W4 (w.heap.size + 1 + 1) 0 (splitL s.data.toList).dropLast) (g : Nat) (hg : w.heap.size + 1 ≠ g) (hP : ∀ k, k < 3 → W4.cell? ⟨g, k, none⟩ = some (.pointer (some ⟨w.heap.size + 1, k, none⟩))) =>
      numbers_any (splitL s.data.toList).dropLast (w.heap.size + 1 + 1) 0 (p + 1) g 3 3 (w.heap.size + 1) 39 [.int .i64 0, .int .i64 0, .int .i64 0, .slice none 0 0] W4 hE (by rw [hdp]; exact ⟨by omega, by unfold maxLen; omega⟩) ⟨Nat.le_refl _, by unfold maxLen; omega⟩ hS (fun l hl => by have := split_le _ _ (List.dropLast_subset _ hl); rw [← size_is] at this; omega) hP hX (by simp) (by have := EN.out.gl; omega) (by omega) (fun e => hg e.symm)
    rw [hdp] at HCN
    have ONE := Lib.hid (one_nums s.data.toList d (by rw [HGL.out]; exact hu))
    have HDP := Lib.hid hdp
    clear hu CU hdp
    go_wp2_with (go_at_call 43; refine HCU.out.mono ?_; rintro e W4 ⟨hB4, v, rfl, how⟩; have HW4 := Lib.hid how; have HB4 := Lib.hid hB4; clear how hB4)
    obtain ⟨W5, hW5⟩ : ∃ W5, W4.alloc (.cells #[.pointer (some ⟨w.heap.size + 1, 0, none⟩), .pointer (some ⟨w.heap.size + 1, 1, none⟩), .pointer (some ⟨w.heap.size + 1, 2, none⟩)] 48) = W5 := ⟨_, rfl⟩
    have hg5 : W5.heap[W4.heap.size]? = some (.cells #[.pointer (some ⟨w.heap.size + 1, 0, none⟩), .pointer (some ⟨w.heap.size + 1, 1, none⟩), .pointer (some ⟨w.heap.size + 1, 2, none⟩)] 48 (0, 0)) := by rw [← hW5]; exact heap_alloc_new W4 _
    have hB45 : Below W4.heap.size W4 W5 := by rw [← hW5]; exact (Below.refl _ _).alloc (Nat.le_refl _) _
    have hB35 : Below W3.heap.size W3 W5 := HB4.out.trans (hB45.mono HB4.out.size)
    have hX3l := (Array.getElem?_eq_some_iff.1 HX3.out).1
    have hX5 := (hB35.block _ hX3l).trans HX3.out
    have hN5 := (hB35.block _ (Array.getElem?_eq_some_iff.1 HN3.out).1).trans HN3.out
    have how5 := ownsRow_below HW4.out hB45
    have hB5 := HB3.out.trans (hB35.mono HB3.out.size)
    have hg4 : w.heap.size + 1 ≠ W4.heap.size := by have := HB4.out.size; omega
    have HW5 := Lib.hid how5
    have HN5 := Lib.hid hN5
    have HB5 := Lib.hid hB5
    have hlo3 : w.heap.size + 1 + 1 ≤ W3.heap.size := by omega
    have CN := HCN.out W5 (HE3.out.below hB35 HE3.out.gl) hX5 (fun j l hj => cell_below (HS3.out j l (dropLast_get _ _ _ hj)) hB35) W4.heap.size hg4 (fun k hk => by
      rw [Lib.cell_of_heap hg5]
      match k, hk with
      | 0, _ => rfl
      | 1, _ => rfl
      | 2, _ => rfl)
    rw [hW5]
    clear hW5 hg5 hB45 hB35 hX5 hN5 how5 hB5
    rcases ONE.out with ⟨k, a, b, h1, h2, hk, ha, hb⟩ | ⟨h1, h2⟩
    · unfold NumsPost at CN
      rw [h1] at CN
      have HCN2 := Lib.hid CN
      have H2 := Lib.hid h2
      clear CN h1 h2
      refine HCN2.out.mono ?_
      rintro e W6 ⟨hK, rfl, hX6⟩
      have hX6' : W6.heap[w.heap.size + 1]? = some (.cells #[.int .i64 k, .int .i64 a, .int .i64 b, .slice none 0 0] 39 (0, 0)) := hX6
      have hN6 := (hK.block _ (Array.getElem?_eq_some_iff.1 HN5.out).1 (by omega)).trans HN5.out
      have n0 := at4 hN6 0 rfl; have n1 := at4 hN6 1 rfl; have n2 := at4 hN6 2 rfl; have n3 := at4 hN6 3 rfl; have fN := Lib.frozen_of_heap hN6
      have x0 := at4 hX6' 0 rfl; have x1 := at4 hX6' 1 rfl; have x2 := at4 hX6' 2 rfl; have x3 := at4 hX6' 3 rfl; have fX := Lib.frozen_of_heap hX6'
      obtain ⟨vd, vc, hv⟩ := own_shape1 HW5.out
      subst hv
      have HK := Lib.hid hK
      have HN6 := Lib.hid hN6
      clear hK hN6 hX6' hX6
      go_wp2_with fail
      have hne : w.heap.size ≠ w.heap.size + 1 := by omega
      have hN7 : (W6.setCell ⟨w.heap.size + 1, 3, none⟩ (.slice vd d.length vc)).heap[w.heap.size]? = some (.cells #[.int .i64 0, .int .i64 0, .int .i64 0, .slice none 0 0] 39 (0, 0)) := (Below.heap_setCell _ _ _ _ hne).trans HN6.out
      have hB7 : Below w.heap.size w (W6.setCell ⟨w.heap.size + 1, 3, none⟩ (.slice vd d.length vc)) := (HB5.out.trans (HK.out.below HB5.out.size (by omega))).setCell (p := ⟨w.heap.size + 1, 3, none⟩) (by simp) _
      refine bodyPost_ret (results_cell_tmp Tryd.results31 _ _ w.heap.size 39 #[.int .i64 k, .int .i64 a, .int .i64 b, .slice vd d.length vc] (0, 0) _ (.bool true) rfl rfl (at_set (o := 3) (at_set (o := 2) (at_set (o := 1) (at_set (o := 0) hN7 _) _) _) _) Tryd.underlying39 rfl (by kernel_rfl)) rfl ?_
      refine ⟨(((hB7.setCell (p := ⟨w.heap.size, 0, none⟩) (Nat.le_refl _) _).setCell (p := ⟨w.heap.size, 1, none⟩) (Nat.le_refl _) _).setCell (p := ⟨w.heap.size, 2, none⟩) (Nat.le_refl _) _).setCell (p := ⟨w.heap.size, 3, none⟩) (Nat.le_refl _) _, ?_⟩
      rw [H2.out]
      refine ⟨_, rfl, ownsRow_mono (Nat.le_trans (Nat.le_add_right _ 2) hlo3) (ownsRow_same HW5.out (fun q h1 h2 => ?_)), hk, ha, hb⟩
      have q1 : q ≠ w.heap.size := by omega
      have q2 : q ≠ w.heap.size + 1 := by omega
      rw [Below.heap_setCell _ _ _ _ q1, Below.heap_setCell _ _ _ _ q1, Below.heap_setCell _ _ _ _ q1, Below.heap_setCell _ _ _ _ q1, Below.heap_setCell _ _ _ _ q2]
      exact HK.out.block q h2 q2
    · unfold NumsPost at CN
      rw [h1] at CN
      have HCN2 := Lib.hid CN
      have H2 := Lib.hid h2
      clear CN h1 h2
      refine HCN2.out.mono ?_
      rintro e W6 ⟨hK, rfl⟩
      have hN6 := (hK.block _ (Array.getElem?_eq_some_iff.1 HN5.out).1 (by omega)).trans HN5.out
      have n0 := at4 hN6 0 rfl; have n1 := at4 hN6 1 rfl; have n2 := at4 hN6 2 rfl; have n3 := at4 hN6 3 rfl; have fN := Lib.frozen_of_heap hN6
      have HK := Lib.hid hK
      have HN6 := Lib.hid hN6
      clear hK hN6
      go_wp2_with fail
      have hB6 := HB5.out.trans (HK.out.below HB5.out.size (by omega))
      exact bodyPost_ret (results_cell_tmp Tryd.results31 _ _ w.heap.size 39 #[.int .i64 0, .int .i64 0, .int .i64 0, .slice none 0 0] (0, 0) _ (.bool false) rfl rfl (at_set (o := 3) (at_set (o := 2) (at_set (o := 1) (at_set (o := 0) HN6.out _) _) _) _) Tryd.underlying39 rfl (by kernel_rfl)) rfl
        (onePost_none H2.out ((((hB6.setCell (p := ⟨w.heap.size, 0, none⟩) (Nat.le_refl _) _).setCell (p := ⟨w.heap.size, 1, none⟩) (Nat.le_refl _) _).setCell (p := ⟨w.heap.size, 2, none⟩) (Nat.le_refl _) _).setCell (p := ⟨w.heap.size, 3, none⟩) (Nat.le_refl _) _))
end Go.Proofs.YtnollfnjidbdcaaDoor.X

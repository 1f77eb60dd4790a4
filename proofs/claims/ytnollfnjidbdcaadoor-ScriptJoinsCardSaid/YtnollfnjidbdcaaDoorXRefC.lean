/- The reference's cut: at blanks. -/
import Derived.Test.YtnollfnjidbdcaaDoorXRefY
import Derived.Test.YtnollfnjidbdcaaDoorXOne
namespace Go.Proofs.YtnollfnjidbdcaaDoor.X
open Go.RowKit
set_option linter.unusedSimpArgs false
set_option linter.unusedVariables false

theorem info9 : (Tryd.prog.info? 9).map (fun i => (i.zero, i.size, i.bytes)) = some (some (.string ⟨#[]⟩), 1, 16) := by kernel_rfl
theorem strVs_snoc (l : List (List UInt8)) (x : List UInt8) : (l ++ [x]).map (fun x => Value.string ⟨x.toArray⟩) = l.map (fun x => Value.string ⟨x.toArray⟩) ++ [.string ⟨x.toArray⟩] := by simp
theorem seg_no (l : List UInt8) (a i : Nat) (h : ∀ j, a ≤ j → j < i → l[j]? ≠ some 32) : ∀ c ∈ (l.drop a).take (i - a), c ≠ 32 := by
  intro c hc e
  subst e
  obtain ⟨j, hj⟩ := List.mem_iff_getElem?.1 hc
  have hlt : j < i - a := by
    have := (List.getElem?_eq_some_iff.1 hj).1
    rw [List.length_take] at this; omega
  rw [List.getElem?_take_of_lt hlt, List.getElem?_drop] at hj
  exact h (a + j) (by omega) (by omega) hj
/-- What is cut; a: where the next word begins; i: the next byte. -/
def CutAt (l : List UInt8) (a i : Nat) (D : List (List UInt8)) : Prop :=
  (i ≤ l.length ∧ a ≤ i ∧ (∀ j, a ≤ j → j < i → l[j]? ≠ some 32) ∧ splitL l = D ++ splitL (l.drop a) ∧ D.length ≤ a) ∨ (i = l.length + 1 ∧ D = splitL l)
theorem CutAt.blank {l : List UInt8} {a i : Nat} {D : List (List UInt8)} (h : CutAt l a i D) (hi : l[i]? = some 32) : CutAt l (i + 1) (i + 1) (D ++ [(l.drop a).take (i - a)]) := by
  have hlt := (List.getElem?_eq_some_iff.1 hi).1
  rcases h with ⟨h1, h2, h3, h4, h5⟩ | ⟨h1, _⟩
  · refine .inl ⟨by omega, Nat.le_refl _, fun j hj hj' => by omega, ?_, by simp; omega⟩
    have e : l.drop a = (l.drop a).take (i - a) ++ 32 :: l.drop (i + 1) := by
      conv => lhs; rw [← List.take_append_drop (i - a) (l.drop a)]
      congr 1
      rw [List.drop_drop, show a + (i - a) = i by omega]
      rw [List.drop_eq_getElem_cons hlt]
      congr 1
      exact (List.getElem?_eq_some_iff.1 hi).2
    rw [h4, List.append_assoc]
    congr 1
    conv => lhs; rw [e]
    rw [splitL_cut _ _ (seg_no l a i h3)]
    rfl
  · omega
theorem CutAt.next {l : List UInt8} {a i : Nat} {D : List (List UInt8)} (h : CutAt l a i D) (hlt : i < l.length) (hi : l[i]? ≠ some 32) : CutAt l a (i + 1) D := by
  rcases h with ⟨h1, h2, h3, h4, h5⟩ | ⟨h1, _⟩
  · refine .inl ⟨by omega, by omega, fun j hj hj' => ?_, h4, h5⟩
    by_cases e : j = i
    · subst e; exact hi
    · exact h3 j hj (by omega)
  · omega
theorem CutAt.last {l : List UInt8} {a : Nat} {D : List (List UInt8)} (h : CutAt l a l.length D) : CutAt l (l.length + 1) (l.length + 1) (D ++ [(l.drop a).take (l.length - a)]) := by
  rcases h with ⟨h1, h2, h3, h4, h5⟩ | ⟨h1, _⟩
  · refine .inr ⟨rfl, ?_⟩
    have e : (l.drop a).take (l.length - a) = l.drop a := List.take_of_length_le (by simp)
    have hn := seg_no l a l.length h3
    rw [e] at hn ⊢
    rw [h4, splitL_word _ hn]
  · omega

def strVs (l : List (List UInt8)) : List Value := l.map fun x => .string ⟨x.toArray⟩
set_option maxHeartbeats 2000000 in
set_option maxRecDepth 100000 in
theorem refCut_any (s : ByteArray) (hs : s.size ≤ 1000000) (w : World) : Calls Tryd.prog 26 #[.string s] w fun e w' => ∃ v, e = .returned v ∧ w'.ownsRow w.heap.size 9 1 v (splitL s.data.toList).length (strVs (splitL s.data.toList)) ∧ Below w.heap.size w w' := by
  go_enter Tryd.func26, Tryd.ntmps26
  go_wp2_with fail
  obtain ⟨i0, hi, hz0, hz1, hz2⟩ := info_parts info9
  have hL := size_is s
  have HL := Lib.hid hL
  clear hL
  go_loopw [3, 4, 5] (fun v3 v4 v5 wr => ∃ (a i : Nat) (D : List (List UInt8)), v5 = .int .i64 i ∧ v4 = .int .i64 a ∧ a ≤ i ∧ i ≤ s.size + 1 ∧ CutAt s.data.toList a i D ∧ wr.ownsRow w.heap.size 9 1 v3 D.length (D.map fun x => .string ⟨x.toArray⟩) ∧ Below w.heap.size w wr) (fun _ _ v5 _ => s.size + 1 - (intOf v5).toNat)
  case atStart => exact ⟨0, 0, [], rfl, rfl, Nat.le_refl _, by omega, .inl ⟨by omega, Nat.le_refl _, fun j h h' => by omega, rfl, Nat.le_refl _⟩, World.ownsRow_nil _ _ _ _, Below.refl _ _⟩
  case round =>
    obtain ⟨a, i, D, rfl, rfl, hai, hi1, hC, how, hB⟩ := hrel
    have hDl : D.length ≤ 1000001 := by
      have hL := HL.out
      rcases hC with ⟨_, _, _, _, h5⟩ | ⟨_, h⟩
      · omega
      · rw [h]; have := split_count s.data.toList; omega
    have HC := Lib.hid hC
    have HOW := Lib.hid how
    have HB := Lib.hid hB
    have HD := Lib.hid hDl
    clear hC how hB hDl
    by_cases hle : i ≤ s.size
    · have hlei : (i : Int) ≤ s.size := by omega
      have haii : (a : Int) ≤ i := by omega
      by_cases heq : i = s.size
      · have heqi : ((i : Int) == (s.size : Int)) = true := by simp [heq]
        go_wp2_with (at_builtin; refine wpList_append_own _ rfl _ _ 53 rfl w.heap.size 9 i0 (.string ⟨#[]⟩) 1 16 Tryd.underlying53 hi hz0 hz1 hz2 rfl (by decide) _ _ _ rfl (HOW.out.alloc _) ⟨wr.heap.size, 0, none⟩ 1 1 [.string (s.extract a s.size)] rfl rfl (cell_new1 _ _ _) (by simp [Value.oneCell']) (by unfold maxLen; have := HD.out; omega) (by have := HD.out; omega) (by have := HB.out.size; simp; omega) ?_; intro v' w3 hown' hgrow _; have HO3 := Lib.hid hown'; have HG3 := Lib.hid hgrow; clear hown' hgrow)
        go_roundw
        case rel =>
          have hC' := HC.out
          rw [heq, HL.out] at hC'
          refine ⟨s.size + 1, s.size + 1, _, by go_num, by go_num, Nat.le_refl _, Nat.le_refl _, by rw [HL.out]; exact hC'.last, ?_, (HB.out.alloc HB.out.size _).grown HG3.out (by have := HB.out.size; simp; omega) (fun q hq => (ownsRow_lo HOW.out q hq))⟩
          have h := HO3.out
          rw [strVs_snoc]
          rw [Lib.extract_eq, HL.out] at h
          simpa using h
        case measure => simp [intOf]; omega
      · have heqi : ((i : Int) == (s.size : Int)) = false := by simp; omega
        have hlt : i < s.size := by omega
        obtain ⟨c, hc⟩ : ∃ c, s[i] = c := ⟨_, rfl⟩
        have hlti : (i : Int) < s.size := by omega
        have hli : s.data.toList[i]? = some c := by
          have h1 := Lib.getD_at s i hlt
          have hl2 : i < s.data.toList.length := by rw [← HL.out]; exact hlt
          rw [hc, List.getD_eq_getElem?_getD, List.getElem?_eq_getElem hl2] at h1
          rw [List.getElem?_eq_getElem hl2]
          exact congrArg some h1.symm
        have HLI := Lib.hid hli
        clear hli
        by_cases h32 : c = 32
        · have hb : ((c.toNat : Int) == 32) = true := by rw [h32]; rfl
          go_wp2_with (at_builtin; refine wpList_append_own _ rfl _ _ 53 rfl w.heap.size 9 i0 (.string ⟨#[]⟩) 1 16 Tryd.underlying53 hi hz0 hz1 hz2 rfl (by decide) _ _ _ rfl (HOW.out.alloc _) ⟨wr.heap.size, 0, none⟩ 1 1 [.string (s.extract a i)] rfl rfl (cell_new1 _ _ _) (by simp [Value.oneCell']) (by unfold maxLen; have := HD.out; omega) (by have := HD.out; omega) (by have := HB.out.size; simp; omega) ?_; intro v' w3 hown' hgrow _; have HO3 := Lib.hid hown'; have HG3 := Lib.hid hgrow; clear hown' hgrow)
          go_roundw
          case rel =>
            refine ⟨i + 1, i + 1, _, by go_num, by go_num, Nat.le_refl _, by omega, HC.out.blank (by rw [← h32]; exact HLI.out), ?_, (HB.out.alloc HB.out.size _).grown HG3.out (by have := HB.out.size; simp; omega) (fun q hq => (ownsRow_lo HOW.out q hq))⟩
            have h := HO3.out
            rw [strVs_snoc]
            rw [Lib.extract_eq] at h
            simpa using h
          case measure => simp [intOf]; omega
        · have hb : ((c.toNat : Int) == 32) = false := by
            rw [beq_eq_false_iff_ne]
            intro e
            exact h32 (UInt8.toNat_inj.1 (by have : c.toNat = 32 := by omega
                                             rw [this]; rfl))
          go_wp2_with fail
          go_roundw
          case rel =>
            exact ⟨a, i + 1, D, by go_num, rfl, by omega, by omega, HC.out.next (by rw [← HL.out]; exact hlt) (fun e => h32 (Option.some.inj (HLI.out.symm.trans e))), HOW.out, HB.out⟩
          case measure => simp [intOf]; omega
    · have hlei : ¬ (i : Int) ≤ s.size := by omega
      have hfin : D = splitL s.data.toList := by
        have hL := HL.out
        rcases HC.out with ⟨h1, _⟩ | ⟨_, h⟩
        · omega
        · exact h
      go_wp2_with fail
      go_ret
      exact ⟨_, rfl, by rw [← hfin]; exact HOW.out, HB.out⟩
end Go.Proofs.YtnollfnjidbdcaaDoor.X

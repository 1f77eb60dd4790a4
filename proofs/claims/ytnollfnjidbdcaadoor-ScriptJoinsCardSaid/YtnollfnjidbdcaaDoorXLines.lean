/- strings.Lines of package strings: what it hands a loop: each line, with its end. -/
import Derived.Test.YtnollfnjidbdcaaDoorXOne
import Derived.RangeFuncNested
import Derived.RangeFuncBound
import Derived.RangeFuncCalls
import Derived.RangeFuncLeaves
import Derived.Shelf.Abstract
import Derived.Shelf.RegionOpen
import Derived.WalkKit
import Derived.OwnWalkIn
import Derived.TacticsInMore
import Derived.LoopNIn
import Derived.LoopIn
import Derived.Lib.IndexBytes
namespace Go.Proofs.YtnollfnjidbdcaaDoor.X
open Go.RowKit Go.Shelf
set_option linter.unusedSimpArgs false
set_option linter.unusedVariables false
attribute [local go_sem] Oper.semAt_some

theorem lines_hit : ∀ (l : List UInt8) (i : Nat), Lib.indexByte l 10 = i → linesL l = l.take (i + 1) :: linesL (l.drop (i + 1)) ∧ i < l.length
  | [], i, h => by simp [Lib.indexByte] at h
  | c :: r, i, h => by
    unfold Lib.indexByte at h
    by_cases hc : c = 10
    · subst hc
      simp at h
      have hi : i = 0 := by omega
      subst hi
      exact ⟨by simp [linesL], by simp⟩
    · have hb : (c == 10) = false := by simpa using hc
      rw [hb] at h
      simp only [Bool.false_eq_true, if_false] at h
      split at h
      · omega
      · obtain ⟨j, rfl⟩ : ∃ j, i = j + 1 := ⟨i - 1, by have := Lib.indexByte_ge r 10; rename_i hm; simp at hm; omega⟩
        obtain ⟨h1, h2⟩ := lines_hit r j (by omega)
        refine ⟨?_, by simp; omega⟩
        rw [linesL, if_neg hc, h1]
        simp
theorem lines_miss : ∀ (l : List UInt8), l ≠ [] → Lib.indexByte l 10 < 0 → linesL l = [l]
  | [], h, _ => absurd rfl h
  | c :: r, _, h => by
    unfold Lib.indexByte at h
    by_cases hc : c = 10
    · subst hc; simp at h
    · have hb : (c == 10) = false := by simpa using hc
      rw [hb] at h
      simp only [Bool.false_eq_true, if_false] at h
      have hr : Lib.indexByte r 10 < 0 := by
        split at h
        · rename_i hm; simp at hm; omega
        · omega
      unfold linesL
      rw [if_neg hc]
      cases r with
      | nil => simp [linesL]
      | cons d t => rw [lines_miss (d :: t) (by simp) hr]
theorem indexByte_any (s : ByteArray) (w : World) : Calls Tryd.prog 42 #[.string s, .int .u8 10] w fun e w' => e = .returned (.int .i64 (Lib.indexByte s.data.toList 10)) ∧ w = w' :=
  (Tryd.strings_IndexByte s 10 w).mono fun e w' ⟨h1, h2⟩ => ⟨h1, h2.symm⟩

/-- What the iterator's captured text still holds. -/
def leftOf (B : Nat) (w : World) : Nat := match w.cell? ⟨B, 0, none⟩ with | some (.string s) => s.size | _ => 0
/-- A round that begins: what has come, what comes, what is to come. -/
def Round (n l B : Nat) (all : List (List UInt8)) (J Jx : List (List UInt8) → World → Prop) : Prop :=
  ∀ pre x rest W, pre ++ x :: rest = all → J pre W → YieldAt Fence.wide n Tryd.prog l #[.string ⟨x.toArray⟩] W fun e W' =>
    (e = .returned (.bool true) ∧ J (pre ++ [x]) W' ∧ W'.heap[B]? = W.heap[B]?) ∨ (e = .returned (.bool false) ∧ Jx (pre ++ [x]) W')

set_option maxHeartbeats 2000000 in
set_option maxRecDepth 100000 in
theorem lines_it (n l B : Nat) (s : ByteArray) (hs : s.size ≤ 1000000) (J Jx : List (List UInt8) → World → Prop) (hJ : ∀ pre W W', J pre W → Keeps B W W' → J pre W')
    (hY : Round (n - 1) l B (linesL s.data.toList) J Jx) (hn : 1 ≤ n) (W : World) (hB : W.heap[B]? = some (.cells #[.string s] 9 (0, 0))) (h0 : J [] W) :
    CallsIn Fence.wide n Tryd.prog 41 #[.func (.yield l) #[] #[], .pointer (some ⟨B, 0, none⟩)] W fun e W' => (∃ v, e = .returned v) ∧
      (J (linesL s.data.toList) W' ∨ (∃ pre, Jx pre W')) := by
  refine callsIn_of_wp Tryd.func41 rfl trivial ?_ rfl
  simp only [Tryd.ntmps41, List.size_toArray, List.length_cons, List.length_nil, Nat.reduceAdd, Nat.reduceSub, Array.replicate_succ, Array.replicate_zero, List.push_toArray, List.append_toArray, List.nil_append, List.cons_append]
  have HB := Lib.hid hB
  clear hB
  gi_wp2
  gi_loopw [3, 4] (fun _ _ wr => ∃ (pre : List (List UInt8)) (t : ByteArray), wr.heap[B]? = some (.cells #[.string t] 9 (0, 0)) ∧ pre ++ linesL t.data.toList = linesL s.data.toList ∧ t.size ≤ s.size ∧ J pre wr) (fun _ _ wr => leftOf B wr)
  case atStart => exact ⟨[], s, HB.out, rfl, Nat.le_refl _, h0⟩
  case round =>
    obtain ⟨pre, t, hBr, hp, htl, hJr⟩ := hrel
    have hc : wr.cell? ⟨B, 0, none⟩ = some (.string t) := by rw [Lib.cell_of_heap hBr]; rfl
    have hf : wr.frozen? ⟨B, 0, none⟩ = false := Lib.frozen_of_heap hBr 0
    have hleft : leftOf B wr = t.size := by simp [leftOf, hc]
    have HBR := Lib.hid hBr
    have HP := Lib.hid hp
    have HJR := Lib.hid hJr
    clear hBr hp hJr
    by_cases ht : 0 < t.size
    · have hti : (0 : Int) < t.size := by omega
      have CI := Lib.hid (indexByte_any t wr)
      by_cases hx : 0 ≤ Lib.indexByte t.data.toList 10
      · obtain ⟨i, hi⟩ : ∃ i : Nat, Lib.indexByte t.data.toList 10 = i := ⟨(Lib.indexByte t.data.toList 10).toNat, by omega⟩
        obtain ⟨h1, h2⟩ := lines_hit _ _ hi
        rw [hi] at CI hx
        have hi' : i < t.size := by rw [size_is]; exact h2
        have H1 := Lib.hid h1
        have HI := Lib.hid hi
        clear h1 h2 hi
        have hw1 := at_set (o := 0) HBR.out (.string (t.extract (i + 1) t.size))
        have hK1 : Keeps B wr (wr.setCell ⟨B, 0, none⟩ (.string (t.extract (i + 1) t.size))).drew := ⟨rfl, rfl, rfl, by simp [World.setCell, World.drew], fun k _ hk => Below.heap_setCell _ _ _ _ hk⟩
        have hJ1 := hJ _ _ _ HJR.out hK1
        have hxs : (⟨(t.data.toList.take (i + 1)).toArray⟩ : ByteArray) = t.extract 0 (i + 1) := by rw [Lib.extract_eq]; simp
        have hrs : (t.extract (i + 1) t.size).data.toList = t.data.toList.drop (i + 1) := Lib.extract_to_end t (i + 1)
        obtain ⟨fn, tmps, assign, body, hy, hR⟩ := hY pre (t.data.toList.take (i + 1)) (linesL (t.data.toList.drop (i + 1))) _ (by rw [← H1.out]; exact HP.out) hJ1
        rw [hxs] at hy
        have HR := Lib.hid hR
        have HW1 := Lib.hid hw1
        have HXS := Lib.hid hxs
        have HRS := Lib.hid hrs
        clear hR hw1 hxs hrs hK1 hJ1
        gi_wp2_with (refine ⟨trivial, ?_⟩; gi_at_call 42; refine (callsIn_wide.2 CI.out).mono ?_; rintro e w2 ⟨rfl, rfl⟩)
        gi_region
        all_goals gi_wp2
        refine HR.out.mono ?_
        rintro e W3 (⟨rfl, hJ3, hk3⟩ | ⟨rfl, hJx3⟩)
        · gi_wp2
          have hB3 : W3.heap[B]? = some (.cells #[.string (t.extract (i + 1) t.size)] 9 (0, 0)) := hk3.trans HW1.out
          have hc3 : W3.cell? ⟨B, 0, none⟩ = some (.string (t.extract (i + 1) t.size)) := by rw [Lib.cell_of_heap hB3]; rfl
          have hsz : (t.extract (i + 1) t.size).size = t.size - (i + 1) := by rw [size_is, HRS.out, List.length_drop, ← size_is]
          go_roundw
          case rel =>
            refine ⟨pre ++ [t.data.toList.take (i + 1)], _, hB3, ?_, by omega, hJ3⟩
            rw [HRS.out, List.append_assoc]
            show pre ++ (_ :: linesL _) = _
            rw [← H1.out]
            exact HP.out
          case measure =>
            have : leftOf B W3 = (t.extract (i + 1) t.size).size := by simp [leftOf, hc3]
            omega
        · gi_wp2
          refine bodyPost_ret (results_none rfl _ _ _) rfl ?_
          exact ⟨⟨_, rfl⟩, .inr ⟨_, hJx3⟩⟩
      · have hne : t.data.toList ≠ [] := by rintro e; rw [size_is, e] at ht; simp at ht
        have h1 := lines_miss _ hne (by omega)
        have hw1 := at_set (o := 0) HBR.out (.string ⟨#[]⟩)
        have hK1 : Keeps B wr (wr.setCell ⟨B, 0, none⟩ (.string ⟨#[]⟩)) := Keeps.setCell _ _ _
        have hJ1 := hJ _ _ _ HJR.out hK1
        obtain ⟨fn, tmps, assign, body, hy, hR⟩ := hY pre t.data.toList [] _ (by rw [← h1]; exact HP.out) hJ1
        have hxs : (⟨t.data.toList.toArray⟩ : ByteArray) = t := rfl
        rw [hxs] at hy
        have HR := Lib.hid hR
        have HW1 := Lib.hid hw1
        have H1 := Lib.hid h1
        clear hR hw1 hxs hK1 hJ1 h1
        gi_wp2_with (refine ⟨trivial, ?_⟩; gi_at_call 42; refine (callsIn_wide.2 CI.out).mono ?_; rintro e w2 ⟨rfl, rfl⟩)
        refine HR.out.mono ?_
        rintro e W3 (⟨rfl, hJ3, hk3⟩ | ⟨rfl, hJx3⟩)
        · gi_wp2
          have hB3 : W3.heap[B]? = some (.cells #[.string ⟨#[]⟩] 9 (0, 0)) := hk3.trans HW1.out
          have hc3 : W3.cell? ⟨B, 0, none⟩ = some (.string ⟨#[]⟩) := by rw [Lib.cell_of_heap hB3]; rfl
          go_roundw
          case rel =>
            refine ⟨pre ++ [t.data.toList], _, hB3, ?_, Nat.zero_le _, hJ3⟩
            rw [← H1.out] at *
            have := HP.out
            simpa [linesL] using this
          case measure =>
            have : leftOf B W3 = 0 := by simp [leftOf, hc3]; rfl
            omega
        · gi_wp2
          refine bodyPost_ret (results_none rfl _ _ _) rfl ?_
          exact ⟨⟨_, rfl⟩, .inr ⟨_, hJx3⟩⟩
    · have hti : ¬ (0 : Int) < t.size := by omega
      have ht0 : t.data.toList = [] := by
        have := size_is t
        exact List.length_eq_zero_iff.1 (by omega)
      gi_wp2
      go_end0
      refine ⟨⟨_, rfl⟩, .inl ?_⟩
      have h := HP.out
      rw [ht0] at h
      simp only [linesL, List.append_nil] at h
      rw [← h]
      exact HJR.out
end Go.Proofs.YtnollfnjidbdcaaDoor.X

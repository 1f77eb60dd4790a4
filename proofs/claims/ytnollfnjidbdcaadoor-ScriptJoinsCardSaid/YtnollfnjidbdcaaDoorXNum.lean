/- number, Hex and unhex of package script. -/
import Derived.Test.YtnollfnjidbdcaaDoorXRune
namespace Go.Proofs.YtnollfnjidbdcaaDoor.X
open Go.RowKit
set_option linter.unusedSimpArgs false
set_option linter.unusedVariables false

theorem atoiV_bounds (l : List UInt8) (h : (atoiV l).2 = true) : -9223372036854775808 ≤ (atoiV l).1 ∧ (atoiV l).1 ≤ 9223372036854775807 := by
  unfold atoiV at h ⊢
  cases ha : Lib.atoiAll l with
  | ok n => exact Lib.atoiAll_bounds ha
  | range => rw [ha] at h; cases h
  | _ => rw [ha] at h; cases h
theorem numV_yes (l : List UInt8) (h : (atoiV l).2 = true) : numV l = ((atoiV l).1, Lib.itoa (atoiV l).1 == l) := by
  unfold atoiV at h ⊢
  unfold numV
  cases ha : Lib.atoiAll l with
  | ok n => rfl
  | range => rw [ha] at h; cases h
  | _ => rw [ha] at h; cases h
theorem numV_no (l : List UInt8) (h : (atoiV l).2 = false) : numV l = ((atoiV l).1, false) := by
  unfold atoiV at h ⊢
  unfold numV
  cases ha : Lib.atoiAll l with
  | ok n => rw [ha] at h; cases h
  | range => rfl
  | _ => rfl

set_option maxHeartbeats 1000000 in
theorem number_any (s : ByteArray) (hs : s.size ≤ 281474976710656) (w : World) (E : Env w) :
    Calls Tryd.prog 39 #[.string s] w (Ret w (.tuple #[.int .i64 (numV s.data.toList).1, .bool (numV s.data.toList).2])) := by
  have A := Lib.hid (atoi_any s hs w E)
  unfold AtoiPost at A
  cases hv : (atoiV s.data.toList).2
  · have HV := Lib.hid hv
    rw [numV_no _ hv]
    clear hv
    go_enter Tryd.func39, Tryd.ntmps39
    go_wp2_with fail
    refine A.out.mono ?_
    rintro e w1 ⟨⟨h, _⟩ | ⟨_, N, rfl⟩, hb⟩
    · rw [HV.out] at h; cases h
    · go_wp2_with fail
      go_ret2
      exact ⟨rfl, hb⟩
  · have HV := Lib.hid hv
    obtain ⟨b0, b1⟩ := atoiV_bounds _ hv
    rw [numV_yes _ hv]
    clear hv
    have I := fun w1 (E1 : Env w1) => Lib.hid (itoa_any (atoiV s.data.toList).1 b0 b1 w1 E1)
    go_enter Tryd.func39, Tryd.ntmps39
    go_wp2_with fail
    refine A.out.mono ?_
    rintro e w1 ⟨⟨_, rfl⟩ | ⟨h, _⟩, hb⟩
    · have E1 := Lib.hid (E.below hb E.gl)
      go_wp2_with (go_at_call 37; refine (I _ E1.out).out.mono ?_; rintro e w2 ⟨rfl, hb2⟩)
      go_ret2
      refine ⟨?_, hb.trans (hb2.mono hb.size)⟩
      rw [← ByteArray.toList_eq]
      rfl
    · rw [HV.out] at h; cases h

theorem dgS_get (i : Nat) (h : i < dgS.size) : (dgS[i]'h).toNat = (dgs.getD i 0).toNat := by
  have : ∀ i (h : i < dgS.size), (dgS[i]'h).toNat = (dgs.getD i 0).toNat := by decide
  exact this i h
theorem hexL_length (l : List UInt8) : (hexL l).length = 2 * l.length := by
  induction l with
  | nil => rfl
  | cons c l ih => rw [show hexL (c :: l) = [dgs.getD (c.toNat / 16) 0, dgs.getD (c.toNat % 16) 0] ++ hexL l from rfl, List.length_append, ih]; simp; omega
theorem hex_snoc (l : List UInt8) (k : Nat) (x : UInt8) (h : l[k]? = some x) : hexL (l.take (k + 1)) = hexL (l.take k) ++ [dgs.getD (x.toNat / 16) 0, dgs.getD (x.toNat % 16) 0] := by
  rw [List.take_add_one, h]
  simp [hexL]

theorem cells_two (a : List UInt8) (p q : UInt8) : Lib.byteCells (a ++ [p, q]) = (Lib.byteCells a ++ [.int .u8 p.toNat]) ++ [.int .u8 q.toNat] := by simp [Lib.byteCells]

/-- The bytes of a slice. -/
def BytesAt (w : World) (v : Value) (l : List UInt8) : Prop :=
  ∃ p c, v = .slice p l.length c ∧ l.length ≤ c ∧ c ≤ maxLen ∧ (0 < l.length → ∃ b off, p = some ⟨b, off, none⟩ ∧ ∀ j x, l[j]? = some x → w.cell? ⟨b, off + j, none⟩ = some (.int .u8 x.toNat))
theorem BytesAt.below {B : Nat} {w w' : World} {v : Value} {l : List UInt8} (h : BytesAt w v l) (hb : Below w.heap.size w w') : BytesAt w' v l := by
  obtain ⟨p, c, hv, h1, h2, h3⟩ := h
  refine ⟨p, c, hv, h1, h2, fun h0 => ?_⟩
  obtain ⟨b, off, hp, hc⟩ := h3 h0
  exact ⟨b, off, hp, fun j x hj => (hb.cell (p := ⟨b, off + j, none⟩) (World.block_lt_of_cell? _ _ (hc j x hj))).trans (hc j x hj)⟩

set_option maxHeartbeats 2000000 in
set_option maxRecDepth 100000 in
theorem hex_any (v : Value) (l : List UInt8) (hl : l.length ≤ 35184372088832) (w : World) (h : BytesAt w v l) :
    Calls Tryd.prog 16 #[v] w (Ret w (.string ⟨(hexL l).toArray⟩)) := by
  obtain ⟨p, c, rfl, h1, h2, h3⟩ := h
  unfold maxLen at h2
  have H3 := Lib.hid h3
  clear h3
  go_enter Tryd.func16, Tryd.ntmps16
  go_wp2_with fail
  go_loopw [5, 8] (fun _ v8 wr => ∃ k : Nat, k ≤ l.length ∧ v8 = .int .i64 k ∧ Lib.IsBuilder 64 5 w.heap.size w.heap.size (Lib.byteCells (hexL (l.take k))) wr ∧ Below w.heap.size w wr) (fun _ v8 _ => l.length - (intOf v8).toNat)
  case atStart => exact ⟨0, by omega, rfl, Lib.fresh_isBuilder 64 5 w, (Below.refl _ w).alloc (Nat.le_refl _) _⟩
  case round =>
    obtain ⟨k, hk, rfl, hI, hB⟩ := hrel
    by_cases hkl : k < l.length
    · obtain ⟨b, off, hp, hc⟩ := H3.out (by omega)
      obtain ⟨x, hx⟩ : ∃ x, l[k]? = some x := ⟨l[k], List.getElem?_eq_getElem hkl⟩
      have hcx := hc k x hx
      have hcw : wr.cell? ⟨b, off + k, none⟩ = some (.int .u8 x.toNat) := (hB.cell (p := ⟨b, off + k, none⟩) (World.block_lt_of_cell? _ _ hcx)).trans hcx
      have hkli : (k : Int) < l.length := by omega
      subst hp
      have HX := Lib.hid hx
      have hx256 : (x.toNat : Int) < 256 := by have := x.toNat_lt; omega
      clear hc hcx hx
      have e1 : (dgS[x.toNat / 16]'(by have : dgS.size = 16 := rfl; omega)).toNat = (dgs.getD (x.toNat / 16) 0).toNat := dgS_get _ _
      have e2 : (dgS[x.toNat % 16]'(by have : dgS.size = 16 := rfl; omega)).toNat = (dgs.getD (x.toNat % 16) 0).toNat := dgS_get _ _
      have HE1 := Lib.hid e1
      have HE2 := Lib.hid e2
      have hlen : (hexL (l.take k)).length ≤ 2 * l.length := by rw [hexL_length, List.length_take]; omega
      clear e1 e2
      go_wp2_with fail
      refine (writeByte_any _ _ _ _ _ hI (by rw [Lib.byteCells_length]; omega) hB.size).mono ?_
      rintro e W1 ⟨rfl, i1, b1⟩
      have hB1 := hB.trans b1
      go_wp2_with fail
      refine (writeByte_any _ _ _ _ _ i1 (by rw [List.length_append, Lib.byteCells_length]; simp; omega) hB1.size).mono ?_
      rintro e W2 ⟨rfl, i2, b2⟩
      have HI2 := Lib.hid i2
      have HB2 := Lib.hid (hB1.trans b2)
      clear hI hB i1 b1 hB1 i2 b2 hcw
      go_wp2_with fail
      go_roundw
      case rel =>
        refine ⟨k + 1, by omega, by go_num, ?_, HB2.out⟩
        have h := HI2.out
        rw [hex_snoc l k x HX.out]
        rw [cells_two, ← HE1.out, ← HE2.out]
        exact h
      case measure => simp [intOf]; omega
    · have hkl' : k = l.length := by omega
      have hkn : ¬ (k : Int) < l.length := by omega
      rw [List.take_of_length_le (by omega)] at hI
      clear hkl'
      go_wp2_with fail
      refine (Tryd.Builder_String_any _ _ _ _ hI hB.size).mono ?_
      rintro e W1 ⟨rfl, b1⟩
      go_wp2_with fail
      go_ret
      exact ⟨rfl, hB.trans b1⟩
end Go.Proofs.YtnollfnjidbdcaaDoor.X

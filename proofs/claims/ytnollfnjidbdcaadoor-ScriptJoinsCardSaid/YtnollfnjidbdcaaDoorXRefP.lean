/- The reference's printing: Hex, Dec, Line, Print. -/
import Derived.Test.YtnollfnjidbdcaaDoorXPrint
import Derived.RegionTactic
namespace Go.Proofs.YtnollfnjidbdcaaDoor.X
open Go.RowKit
set_option linter.unusedSimpArgs false
set_option linter.unusedVariables false

theorem dgX_size (i : Nat) (h : i < 16) : ((⟨#[48, 49, 50, 51, 52, 53, 54, 55, 56, 57, 97, 98, 99, 100, 101, 102]⟩ : ByteArray).extract i (i + 1)).size = 1 := by
  rw [ByteArray.size_extract]
  show min (i + 1) 16 - i = 1
  omega
theorem dgX_data : ∀ i : Fin 16, ((⟨#[48, 49, 50, 51, 52, 53, 54, 55, 56, 57, 97, 98, 99, 100, 101, 102]⟩ : ByteArray).extract i.val (i.val + 1)).data.toList = [dgs.getD i.val 0] := by decide
theorem app_data (a b : ByteArray) : (a ++ b).data.toList = a.data.toList ++ b.data.toList := by simp
theorem str_is {t : ByteArray} {l : List UInt8} (h : t.data.toList = l) : Ending.returned (.string t) = .returned (.string ⟨l.toArray⟩) := by
  subst h; rfl
set_option maxHeartbeats 2000000 in
set_option maxRecDepth 100000 in
theorem refHex_any (v : Value) (l : List UInt8) (hl : l.length ≤ 35184372088832) (w : World) (h : BytesAt w v l) :
    Calls Tryd.prog 17 #[v] w (Ret w (.string ⟨(hexL l).toArray⟩)) := by
  obtain ⟨p, c, rfl, h1, h2, h3⟩ := h
  unfold maxLen at h2
  have H3 := Lib.hid h3
  clear h3
  go_enter Tryd.func17, Tryd.ntmps17
  go_wp2_with fail
  go_loopw [3, 4] (fun v3 v4 wr => ∃ (k : Nat) (t : ByteArray), k ≤ l.length ∧ v4 = .int .i64 k ∧ v3 = .string t ∧ t.data.toList = hexL (l.take k) ∧ Below w.heap.size w wr) (fun _ v4 _ => l.length - (intOf v4).toNat)
  case atStart => exact ⟨0, _, by omega, rfl, rfl, rfl, Below.refl _ _⟩
  case round =>
    obtain ⟨k, t, hk, rfl, rfl, ht, hB⟩ := hrel
    by_cases hkl : k < l.length
    · obtain ⟨b, off, hp, hc⟩ := H3.out (by omega)
      obtain ⟨x, hx⟩ : ∃ x, l[k]? = some x := ⟨l[k], List.getElem?_eq_getElem hkl⟩
      have hcx := hc k x hx
      have hcw : wr.cell? ⟨b, off + k, none⟩ = some (.int .u8 x.toNat) := (hB.cell (p := ⟨b, off + k, none⟩) (World.block_lt_of_cell? _ _ hcx)).trans hcx
      have hkli : (k : Int) < l.length := by omega
      subst hp
      have HX := Lib.hid hx
      have HT := Lib.hid ht
      have HB := Lib.hid hB
      have hx256 : (x.toNat : Int) < 256 := by have := x.toNat_lt; omega
      have hts : t.size ≤ 70368744177664 := by
        have h := congrArg List.length ht
        rw [← size_is, hexL_length, List.length_take] at h
        omega
      have hE1 := dgX_size (x.toNat / 16) (by have := x.toNat_lt; omega)
      have hE2 := dgX_size (x.toNat % 16) (by omega)
      clear hc hcx hx ht hB
      go_wp2_with fail
      go_region
      all_goals go_wp2_with fail
      all_goals go_roundw
      case rel =>
        refine ⟨k + 1, _, by omega, by go_num, rfl, ?_, HB.out.drew⟩
        rw [hex_snoc l k x HX.out, app_data, app_data, HT.out, dgX_data ⟨x.toNat / 16, by have := x.toNat_lt; omega⟩, dgX_data ⟨x.toNat % 16, by omega⟩]
        simp
      case measure => simp [intOf]; omega
    · have hkn : ¬ (k : Int) < l.length := by omega
      rw [List.take_of_length_le (by omega)] at ht
      go_wp2_with fail
      go_ret
      exact ⟨str_is ht, hB⟩
end Go.Proofs.YtnollfnjidbdcaaDoor.X

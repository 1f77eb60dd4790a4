/- light and same of the law's package. -/
import Derived.Test.YtnollfnjidbdcaaDoorXRefL
namespace Go.Proofs.YtnollfnjidbdcaaDoor.X
open Go.RowKit
set_option linter.unusedSimpArgs false
set_option linter.unusedVariables false

def total (xs : List St) : Nat := (xs.map fun x => x.d.length).sum
def lightB (xs : List St) : Bool := decide (xs.length ≤ 300) && decide (total xs ≤ 20000)

theorem total_snoc (l : List St) (x : St) : total (l ++ [x]) = total l + x.d.length := by simp [total]
theorem total_take : ∀ (xs : List St) (k : Nat), (∀ x ∈ xs, x.d.length ≤ 140737488355328) → total (xs.take k) ≤ k * 140737488355328
  | [], k, _ => by simp [total]
  | x :: r, 0, _ => by simp [total]
  | x :: r, k + 1, h => by
    have h1 := total_take r k (fun y hy => h y (by simp [hy]))
    have h2 := h x (by simp)
    simp only [total, List.take_succ_cons, List.map_cons, List.sum_cons] at h1 ⊢
    omega
theorem wrap64_small (n : Int) (h0 : 0 ≤ n) (h1 : n ≤ 9223372036854775807) : wrap64 n = n := IntWalk.wrap64_in n (by omega)
set_option maxHeartbeats 2000000 in
set_option maxRecDepth 100000 in
theorem light_any (v : Value) (xs : List St) (hd : ∀ x ∈ xs, x.d.length ≤ 140737488355328) (w : World) (h : StepsAt w v xs) : Calls Tryd.prog 12 #[v] w (Ret w (.bool (lightB xs))) := by
  obtain ⟨p, c, rfl, h1, h2, h3⟩ := h
  unfold maxLen at h2
  have H3 := Lib.hid h3
  clear h3
  go_enter Tryd.func12, Tryd.ntmps12
  go_wp2_with fail
  go_loopw [3, 4] (fun v3 v4 wr => ∃ (k : Nat) (z : Int), k ≤ xs.length ∧ v4 = .int .i64 k ∧ v3 = .int .i64 z ∧ (k ≤ 300 → z = (total (xs.take k) : Nat)) ∧ Below w.heap.size w wr) (fun _ v4 _ => xs.length - (intOf v4).toNat)
  case atStart => exact ⟨0, 0, by omega, rfl, rfl, fun _ => rfl, Below.refl _ _⟩
  case round =>
    obtain ⟨k, z, hk, rfl, rfl, hz, hB⟩ := hrel
    by_cases hkl : k < xs.length
    · obtain ⟨b, off, hp, hc⟩ := H3.out (by omega)
      obtain ⟨x, hx⟩ : ∃ x, xs[k]? = some x := ⟨xs[k], List.getElem?_eq_getElem hkl⟩
      have hst := (hc k x hx).below hB
      have hkli : (k : Int) < xs.length := by omega
      subst hp
      obtain ⟨vd, c3, hvd⟩ := hst.cd
      obtain ⟨pd, cd, rfl⟩ := hvd.shape
      have hxd := hd x (List.mem_of_getElem? hx)
      have HX := Lib.hid hx
      have HZ := Lib.hid hz
      have HB := Lib.hid hB
      have HT := Lib.hid (total_take xs k hd)
      clear hc hx hst hvd hz hB
      go_wp2_with fail
      go_roundw
      case rel =>
        refine ⟨k + 1, _, by omega, by go_num, rfl, fun h300 => ?_, HB.out⟩
        rw [HZ.out (by omega), List.take_add_one, HX.out, Option.toList_some, total_snoc]
        have := HT.out
        rw [wrap64_small _ (by omega) (by have : k * 140737488355328 ≤ 300 * 140737488355328 := Nat.mul_le_mul_right _ (by omega)
                                          omega)]
        omega
      case measure => simp [intOf]; omega
    · have hkn : ¬ (k : Int) < xs.length := by omega
      have hkk : k = xs.length := by omega
      rw [hkk, List.take_of_length_le (Nat.le_refl _)] at hz
      by_cases h300 : xs.length ≤ 300
      · have h3i : (xs.length : Int) ≤ 300 := by omega
        have hzz := hz h300
        have hl : lightB xs = decide (total xs ≤ 20000) := by simp [lightB, h300]
        rw [hl]
        subst hzz
        go_wp2_with fail
        go_ret
        exact ⟨by congr 2; simp; omega, hB⟩
      · have h3i : ¬ (xs.length : Int) ≤ 300 := by omega
        have hl : lightB xs = false := by simp [lightB]; omega
        rw [hl]
        go_wp2_with fail
        go_ret
        exact ⟨rfl, hB⟩

theorem foldl_bytes : ∀ (l : List UInt8) (s : ByteArray), (l.map fun b => (b.toNat : Int)).foldl (fun (r : ByteArray) n => r.push (UInt8.ofNat n.toNat)) s = ⟨(s.data.toList ++ l).toArray⟩
  | [], s => by simp
  | c :: l, s => by
    simp only [List.map_cons, List.foldl_cons]
    rw [foldl_bytes l]
    congr 1
    simp [ByteArray.push]
theorem convert_bytes {w : World} {v : Value} {l : List UInt8} (h : BytesAt w v l) : (convert 37 9 v).run Tryd.prog w = .ok (.string ⟨l.toArray⟩) w := by
  obtain ⟨p, c, rfl, h1, h2, h3⟩ := h
  rw [run_convert_bytes_string _ 37 9 5 _ _ _ Tryd.underlying37 Tryd.underlying5 Tryd.underlying9]
  have key : ∀ a : Addr, (∀ j x, l[j]? = some x → w.cell? (a.add j) = some (.int .u8 x.toNat)) → (Conv.bytesToString (.slice (some a) l.length c)).run Tryd.prog w = .ok (.string ⟨l.toArray⟩) w := fun a hc => by
    have hl : (loadCells a l.length).run Tryd.prog w = .ok ((l.map fun b => (b.toNat : Int)).map (Value.int .u8)).toArray w := by
      have := run_loadCells_list (P := Tryd.prog) w a ((l.map fun b => (b.toNat : Int)).map (Value.int .u8)) (fun j v hv => by
        rw [List.getElem?_map, List.getElem?_map] at hv
        cases hx : l[j]? with
        | none => rw [hx] at hv; cases hv
        | some x => rw [hx] at hv; have hv := Option.some.inj hv; subst hv; exact hc j x hx)
      simpa using this
    rw [run_bytesToString _ _ _ _ _ hl, foldl_bytes]
    rfl
  cases p with
  | none =>
    have h0 : l = [] := by
      cases l with
      | nil => rfl
      | cons a r => obtain ⟨_, _, h, _⟩ := h3 (by simp); cases h
    subst h0
    rfl
  | some a =>
    refine key a (fun j x hj => ?_)
    have hl : 0 < l.length := by have := (List.getElem?_eq_some_iff.1 hj).1; omega
    obtain ⟨b, off, hp, hc⟩ := h3 hl
    cases hp
    rw [Lib.add_plain]
    exact hc j x hj

set_option maxHeartbeats 2000000 in
set_option maxRecDepth 100000 in
theorem same_any (v u : Value) (xs : List St) (w : World) (h : StepsAt w v xs) (g : StepsAt w u xs) : Calls Tryd.prog 15 #[v, u] w (Ret w (.bool true)) := by
  obtain ⟨p, c, rfl, h1, h2, h3⟩ := h
  obtain ⟨q, d, rfl, g1, g2, g3⟩ := g
  unfold maxLen at h2 g2
  have H3 := Lib.hid h3
  have G3 := Lib.hid g3
  clear h3 g3
  go_enter Tryd.func15, Tryd.ntmps15
  go_wp2_with fail
  go_loopw [5] (fun v5 wr => ∃ (k : Nat), k ≤ xs.length ∧ v5 = .int .i64 k ∧ Below w.heap.size w wr) (fun v5 _ => xs.length - (intOf v5).toNat)
  case atStart => exact ⟨0, by omega, rfl, Below.refl _ _⟩
  case round =>
    obtain ⟨k, hk, rfl, hB⟩ := hrel
    by_cases hkl : k < xs.length
    · obtain ⟨b, off, hp, hc⟩ := H3.out (by omega)
      obtain ⟨b', off', hq, hc'⟩ := G3.out (by omega)
      obtain ⟨x, hx⟩ : ∃ x, xs[k]? = some x := ⟨xs[k], List.getElem?_eq_getElem hkl⟩
      have hst := (hc k x hx).below hB
      have gst := (hc' k x hx).below hB
      have hkli : (k : Int) < xs.length := by omega
      subst hp hq
      have c0 := hst.ck
      have c1 := hst.ca
      have c2 := hst.cb
      obtain ⟨vd, c3, hvd⟩ := hst.cd
      have d0 := gst.ck
      have d1 := gst.ca
      have d2 := gst.cb
      obtain ⟨ud, d3, hud⟩ := gst.cd
      have k1 := convert_bytes (w := wr.drew) (l := x.d) (v := vd) hvd
      have k2 := convert_bytes (w := wr.drew) (l := x.d) (v := ud) hud
      obtain ⟨pd, cd, rfl⟩ := hvd.shape
      obtain ⟨qd, dd, rfl⟩ := hud.shape
      obtain ⟨sx, hsx⟩ : ∃ sx : ByteArray, ⟨x.d.toArray⟩ = sx := ⟨_, rfl⟩
      rw [hsx] at k1 k2
      have HB := Lib.hid hB
      clear hc hc' hx hst gst hvd hud hB hsx
      go_wp2_with fail
      go_region
      all_goals go_wp2_with fail
      all_goals go_roundw
      case rel => exact ⟨k + 1, by omega, by go_num, HB.out.drew⟩
      case measure => simp [intOf]; omega
    · have hkn : ¬ (k : Int) < xs.length := by omega
      go_wp2_with fail
      go_ret
      exact ⟨rfl, hB⟩
end Go.Proofs.YtnollfnjidbdcaaDoor.X

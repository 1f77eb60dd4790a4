/- The reference's Read. -/
import Derived.Test.YtnollfnjidbdcaaDoorXRefR
import Derived.Test.YtnollfnjidbdcaaDoorXReadLaw
import Derived.Test.YtnollfnjidbdcaaDoorXParse
namespace Go.Proofs.YtnollfnjidbdcaaDoor.X
open Go.RowKit
set_option linter.unusedSimpArgs false
set_option linter.unusedVariables false

theorem read_on {w wr W2 w3 : World} {xs : List St} {cs : List Value} {y : St} {v d : Value} {o1 o2 : Obj} (hB : Below w.heap.size w wr) (hB2 : Below wr.heap.size wr W2)
    (hrow : wr.ownsRow w.heap.size 39 4 v xs.length cs) (hR : RowSts wr w.heap.size xs cs) (how : W2.ownsRow wr.heap.size 5 1 d y.d.length (Lib.byteCells y.d)) (hok : i64ok y.k ∧ i64ok y.a ∧ i64ok y.b)
    (hg : ((W2.alloc o1).alloc o2).grownBy w3 v.ownBlock) :
    RowSts w3 w.heap.size (xs ++ [y]) (cs ++ [.int .i64 y.k, .int .i64 y.a, .int .i64 y.b, d]) ∧ Below w.heap.size w w3 := by
  have hBc : Below wr.heap.size wr ((W2.alloc o1).alloc o2) := (hB2.alloc hB2.size o1).alloc (by have := hB2.size; simp; omega) o2
  have hrowc := ownsRow_below hrow hBc
  have h5 : ∀ k cur, w.heap.size ≤ k → ((W2.alloc o1).alloc o2).heap[k]? = some (.cells cur 5 (0, 0)) → w3.heap[k]? = ((W2.alloc o1).alloc o2).heap[k]? := fun k cur _ hk => hg.block k (Array.getElem?_eq_some_iff.1 hk).1 (by
    intro e
    rcases hrowc.2 with ⟨h, _⟩ | ⟨g, cap, cur', h, _, hgb, _⟩
    · rw [h] at e; simp [Value.ownBlock] at e
    · rw [h] at e
      obtain rfl : k = g := by simpa [Value.ownBlock] using e
      rw [hgb] at hk; cases hk)
  have hR3 : RowSts w3 w.heap.size xs cs := (hR.kept (W' := ((W2.alloc o1).alloc o2)) (fun k cur _ hk => hBc.block k (Array.getElem?_eq_some_iff.1 hk).1)).kept h5
  have hd3 : w3.ownsRow w.heap.size 5 1 d y.d.length (Lib.byteCells y.d) := own_kept (ownsRow_mono hB.size ((how.alloc o1).alloc o2)) h5
  exact ⟨hR3.snoc hd3 hok, (hB.trans (hBc.mono hB.size)).grown hg (by have := hB.size; have := hBc.size; omega) (fun k e => (hrow.lt k e).1)⟩

theorem parsePost_bad {l : List UInt8} {w w' : World} {n : Int} (h : parseL l = ([], n, 8)) (hb : Below w.heap.size w w') : ParsePost l w (.returned (.tuple #[.slice none 0 0, .int .i64 n, .int .i64 8])) w' := by
  unfold ParsePost
  rw [h]
  exact ⟨hb, _, rfl, none, 0, rfl, Nat.le_refl _, by unfold maxLen; omega, fun h => by simp at h⟩
theorem parsePost_done {l : List UInt8} {w w' : World} {v : Value} {xs : List St} (h : parseL l = (xs, 0, 0)) (hb : Below w.heap.size w w') (hs : StepsAt w' v xs) : ParsePost l w (.returned (.tuple #[v, .int .i64 0, .int .i64 0])) w' := by
  unfold ParsePost
  rw [h]
  exact ⟨hb, _, rfl, hs⟩

set_option maxHeartbeats 2000000 in
set_option maxRecDepth 100000 in
theorem refRead_any (s : ByteArray) (hs : s.size ≤ 1000000) (w : World) : Calls Tryd.prog 20 #[.string s] w (ParsePost s.data.toList w) := by
  have HL := Lib.hid (size_is s)
  obtain ⟨i0, hi, hz0, hz1, hz2⟩ := info_parts info39
  go_enter Tryd.func20, Tryd.ntmps20
  go_wp2_with fail
  go_loopw [5, 6, 7, 8] (fun v5 v6 v7 v8 wr => ∃ (a i : Nat) (xs : List St) (cs : List Value), v8 = .int .i64 i ∧ v6 = .int .i64 a ∧ v7 = .int .i64 ((xs.length : Int) + 1) ∧ ReadAt s.data.toList a i xs ∧ wr.ownsRow w.heap.size 39 4 v5 xs.length cs ∧ RowSts wr w.heap.size xs cs ∧ Below w.heap.size w wr) (fun _ _ _ v8 _ => s.size - (intOf v8).toNat)
  case atStart => exact ⟨0, 0, [], [], rfl, rfl, rfl, ReadAt.start _, World.ownsRow_nil _ _ _ _, ⟨rfl, fun j x h => by simp at h⟩, Below.refl _ _⟩
  case round =>
    obtain ⟨a, i, xs, cs, rfl, rfl, rfl, hA, how, hR, hB⟩ := hrel
    have hil : i ≤ s.size := by have := hA.2.1; rw [← HL.out] at this; exact this
    have hai : a ≤ i := hA.1
    have hxl : xs.length ≤ 1000000 := by have := hA.2.2.1; omega
    have HA := Lib.hid hA
    have HOW := Lib.hid how
    have HR := Lib.hid hR
    have HB := Lib.hid hB
    clear hA hR hB
    by_cases hlt : i < s.size
    · have hlti : (i : Int) < s.size := by omega
      have haii : (a : Int) ≤ i := by omega
      obtain ⟨c, hc⟩ : ∃ c, s[i] = c := ⟨_, rfl⟩
      have hli : s.data.toList[i]? = some c := by
        have h1 := Lib.getD_at s i hlt
        have hl2 : i < s.data.toList.length := by rw [← HL.out]; exact hlt
        rw [hc, List.getD_eq_getElem?_getD, List.getElem?_eq_getElem hl2] at h1
        rw [List.getElem?_eq_getElem hl2]
        exact congrArg some h1.symm
      have HLI := Lib.hid hli
      clear hli
      by_cases h10 : c = 10
      · have hb : ((c.toNat : Int) != 10) = false := by rw [h10]; rfl
        have hseg : (s.extract a i).data.toList = (s.data.toList.drop a).take (i - a) := by rw [Lib.extract_eq]
        have CO := refReadLine_any (s.extract a i) (by rw [size_is, hseg, List.length_take]; omega) wr
        rw [hseg] at CO
        unfold OnePost at CO
        obtain ⟨va, vc, hv⟩ := own_shape1 how
        subst hv
        clear how hseg
        cases ho : oneL ((s.data.toList.drop a).take (i - a)) with
        | none =>
          rw [ho] at CO
          have HO := Lib.hid (HA.out.bad (by rw [← h10]; exact HLI.out) ho)
          have HCO := Lib.hid CO
          clear CO ho
          go_wp2_with (go_at_call 18; refine HCO.out.mono ?_; rintro e W2 ⟨hB2, rfl⟩; have HB2 := Lib.hid hB2; clear hB2)
          go_ret3
          exact parsePost_bad HO.out ((HB.out.trans (HB2.out.mono HB.out.size)).alloc (by have := HB.out.size; have := HB2.out.size; omega) _)
        | some y =>
          rw [ho] at CO
          have HO := Lib.hid (HA.out.line (by rw [← h10]; exact HLI.out) ho)
          have HCO := Lib.hid CO
          clear CO ho
          go_wp2_with (first | (go_at_call 18; refine HCO.out.mono ?_; rintro e W2 ⟨hB2, d, rfl, hd, hok⟩; have HB2 := Lib.hid hB2; have HR2 := Lib.hid (ownsRow_below HOW.out hB2); have hl2 := hB2.size; obtain ⟨da, dc, rfl⟩ := own_shape1 hd; have HD := Lib.hid hd; have HOK := Lib.hid hok; clear hB2 hd hok) | (at_builtin; refine wpList_append_own _ rfl _ _ 29 rfl w.heap.size 39 i0 (.agg #[.int .i64 0, .int .i64 0, .int .i64 0, .slice none 0 0]) 4 48 Tryd.underlying29 hi hz0 hz1 hz2 rfl (by decide) _ _ _ rfl ((HR2.out.alloc _).alloc _) ⟨W2.heap.size + 1, 0, none⟩ 1 1 [.int .i64 y.k, .int .i64 y.a, .int .i64 y.b, .slice da y.d.length dc] rfl rfl (cell_new4' (World.size_alloc _ _) _ _ _ _ _) (by simp [Value.oneCell']) (by unfold maxLen; omega) (by omega) (by have := HB.out.size; simp; omega) ?_; intro v' w3 hown' hgrow _; have HO3 := Lib.hid hown'; have HG3 := Lib.hid hgrow; clear hown' hgrow))
          go_roundw
          case rel =>
            obtain ⟨g1, g2⟩ := read_on HB.out HB2.out HOW.out HR.out HD.out HOK.out HG3.out
            refine ⟨i + 1, i + 1, xs ++ [y], _, by go_num, by go_num, by simp, HO.out, ?_, g1, g2⟩
            simpa using HO3.out
          case measure => simp [intOf]; omega
      · have hb : ((c.toNat : Int) != 10) = true := by
          rw [bne_iff_ne]
          intro e
          exact h10 (UInt8.toNat_inj.1 (by have : c.toNat = 10 := by omega
                                           rw [this]; rfl))
        go_wp2_with fail
        go_roundw
        case rel =>
          exact ⟨a, i + 1, xs, cs, by go_num, rfl, rfl, HA.out.next (by rw [← HL.out]; exact hlt) (fun e => h10 (Option.some.inj (HLI.out.symm.trans e))), HOW.out, HR.out, HB.out⟩
        case measure => simp [intOf]; omega
    · have hie : i = s.size := by omega
      subst hie
      have hA := HA.out
      rw [HL.out] at hA
      have hlei : ¬ (s.size : Int) < s.size := by omega
      by_cases hal : a < s.size
      · have hali : (a : Int) < s.size := by omega
        have HO := Lib.hid (hA.rest (by rw [← HL.out]; exact hal))
        clear hA
        go_wp2_with fail
        go_ret3
        exact parsePost_bad HO.out HB.out
      · have hali : ¬ (a : Int) < s.size := by omega
        have HO := Lib.hid (hA.done (by rw [← HL.out]; exact hal))
        clear hA
        go_wp2_with fail
        go_ret3
        exact parsePost_done HO.out HB.out (stepsAt_own HOW.out HR.out)
end Go.Proofs.YtnollfnjidbdcaaDoor.X

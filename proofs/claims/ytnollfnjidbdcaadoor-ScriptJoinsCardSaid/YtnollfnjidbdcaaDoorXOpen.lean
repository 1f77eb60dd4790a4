/- Steps that came in: what their reading gives. -/
import Derived.Test.YtnollfnjidbdcaaDoorXWorld
import Derived.Test.YtnollfnjidbdcaaDoorXPrint
import Derived.WalkKit
import Derived.Deep.Slices
import Derived.Deep.Fields
import Derived.ProofKit
import Derived.OpenShut
import Derived.ShutString
import Derived.ChangeOld
import Derived.Below
import Derived.Carry
import Derived.SizedLaws
namespace Go.Proofs.YtnollfnjidbdcaaDoor.X
open Go Go.ChangeShapes Go.WideShapes Go.ChangeAt Go.RowKit
set_option linter.unusedSimpArgs false
set_option linter.unusedVariables false
variable {H : Type} {enc : TypeId × Value → H}

theorem choose_all {α : Type} [Inhabited α] {n : Nat} {p : Nat → α → Prop} (h : ∀ i, i < n → ∃ x, p i x) : ∃ f : Nat → α, ∀ i, i < n → p i (f i) :=
  ⟨fun i => if h' : i < n then (h i h').choose else default, fun i hi => by simp only [dif_pos hi]; exact (h i hi).choose_spec⟩
instance : Inhabited St := ⟨⟨0, 0, 0, []⟩⟩
theorem range_get {α : Type} (f : Nat → α) (n j : Nat) (x : α) (h : ((List.range n).map f)[j]? = some x) : j < n ∧ x = f j := by
  have hj : j < n := by have := (List.getElem?_eq_some_iff.1 h).1; simpa using this
  rw [List.getElem?_map, List.getElem?_range hj] at h
  exact ⟨hj, (Option.some.inj h).symm⟩

set_option maxRecDepth 100000 in
theorem open_bytes {W : World} {sp : Nat → Bool} {fuel : Nat} {u : Value} {d : DataW H} {pl : List MemPlace} (h : DataW.trod enc Tryd.prog W 0 sp true fuel 37 [u] = some (d, pl))
    (hw : ∀ n ∈ d.weights Tryd.prog 37, n ≤ reachBytes) : ∃ l : List UInt8, BytesAt W u l ∧ l.length ≤ 140737488355328 := by
  rcases Go.Deep.open_slice1 Tryd.underlying37 (by kernel_rfl) h with ⟨e, _⟩ | ⟨a, len, cap, m, n, V, D, Pl, e, _, hl, hm, hmm, hx, hi⟩
  · have e : u = .slice none 0 0 := by simpa using e
    subst e
    exact ⟨[], ⟨none, 0, rfl, Nat.le_refl _, by unfold maxLen; omega, fun h => by simp at h⟩, by simp⟩
  · have e : u = .slice (some a) len cap := by simpa using e
    subst e
    have hlm : len ≤ m := by rw [hmm]; split <;> omega
    simp only [Prod.mk.injEq] at hx
    have hsz := hw ((len + (m - len)) * Tryd.prog.bytesOf 5) (by rw [hx.1]; simp [DataW.weights, Tryd.underlying37])
    have hb : Tryd.prog.bytesOf 5 = 1 := by kernel_rfl
    rw [hb] at hsz
    have hrb := reachBytes_lt
    have hV : ∀ i, i < len → ∃ b : UInt8, W.cell? (a.add i) = some (.int .u8 b.toNat) := fun i hi' => by
      obtain ⟨hc, ht⟩ := hi i (by omega)
      obtain ⟨z, e1, _, wf⟩ := DataW.trod_int Tryd.underlying5 ht
      have e1 : V i = .int .u8 z := by simpa using e1
      have hz : 0 ≤ z ∧ z ≤ 255 := by
        have e3 : IntKind.u8.min = 0 := rfl
        have e4 : IntKind.u8.max = 255 := rfl
        simpa [Lit.wf, e3, e4] using wf
      refine ⟨UInt8.ofNat z.toNat, ?_⟩
      rw [hc, e1, UInt8.toNat_ofNat']
      congr 2; omega
    obtain ⟨f, hf⟩ := choose_all hV
    refine ⟨(List.range len).map f, ⟨some a, cap, by simp, by simpa using hl, hm, fun h0 => ?_⟩, by simp; omega⟩
    have h0 : 0 < len := by simpa using h0
    obtain ⟨b, off, spot⟩ := a
    have hspot : spot = none := by simpa [Addr.add] using World.cell?_spot (hf 0 h0)
    subst hspot
    refine ⟨b, off, rfl, fun j x hj => ?_⟩
    obtain ⟨hj', rfl⟩ := range_get f len j x hj
    have := hf j hj'
    rwa [Lib.add_plain] at this

theorem weights_all {P : Program} {e : TypeId} : ∀ {l : List (DataW H)} {x : DataW H}, x ∈ l → ∀ n ∈ x.weights P e, n ∈ DataW.weightsAll P e l
  | y :: r, x, hx, n, hn => by
    simp only [DataW.weightsAll, List.mem_append]
    rcases List.mem_cons.1 hx with hx | hx
    · subst hx; exact .inl hn
    · exact .inr (weights_all hx n hn)
set_option maxRecDepth 100000 in
theorem open_steps {W : World} {sp : Nat → Bool} {fuel : Nat} {u : Value} {d : DataW H} {pl : List MemPlace} (h : DataW.trod enc Tryd.prog W 0 sp true fuel 29 [u] = some (d, pl))
    (hw : ∀ n ∈ d.weights Tryd.prog 29, n ≤ reachBytes) : ∃ xs : List St, StepsAt W u xs ∧ (∀ x ∈ xs, x.d.length ≤ 140737488355328) ∧ (∀ x ∈ xs, i64ok x.k ∧ i64ok x.a ∧ i64ok x.b) := by
  rcases Go.Deep.open_slice Tryd.underlying29 h with ⟨e, _⟩ | ⟨a, len, cap, m, n, D, Pl, e, _, hl, hm, hmm, hx, hi⟩
  · have e : u = .slice none 0 0 := by simpa using e
    subst e
    exact ⟨[], ⟨none, 0, rfl, Nat.le_refl _, by unfold maxLen; omega, fun h => by simp at h⟩, by simp, by simp⟩
  · have e : u = .slice (some a) len cap := by simpa using e
    subst e
    have hlm : len ≤ m := by rw [hmm]; split <;> omega
    simp only [Prod.mk.injEq] at hx
    have hc4 : Tryd.prog.cellsOf 39 = 4 := by kernel_rfl
    have each : ∀ j, j < len → ∃ x : St, (W.cell? (a.add (j * 4)) = some (.int .i64 x.k) ∧ W.cell? ((a.add (j * 4)).add 1) = some (.int .i64 x.a) ∧ W.cell? ((a.add (j * 4)).add 2) = some (.int .i64 x.b) ∧
        ∃ v, W.cell? ((a.add (j * 4)).add 3) = some v ∧ BytesAt W v x.d) ∧ x.d.length ≤ 140737488355328 ∧ i64ok x.k ∧ i64ok x.a ∧ i64ok x.b := by
      intro j hj
      obtain ⟨cs, hcs, ht⟩ := hi j (by omega)
      rw [hc4] at hcs
      obtain ⟨_, hcl, hat⟩ := World.cells?_some hcs
      obtain ⟨ys, n', _, hD, _, hyl, hg⟩ := DataW.trod_struct Tryd.underlying39 ht
      match cs, hcl, ys, hyl with
      | [u0, u1, u2, u3], _, [y0, y1, y2, y3], _ =>
        have hc3 : Tryd.prog.cellsOf 3 = 1 := by kernel_rfl
        have hc37 : Tryd.prog.cellsOf 37 = 1 := by kernel_rfl
        have g0 : DataW.trod _ _ _ _ _ _ n' 3 (List.take (Tryd.prog.cellsOf 3) (List.drop 0 [u0, u1, u2, u3])) = some y0 := hg 0 _ rfl
        have g1 : DataW.trod _ _ _ _ _ _ n' 3 (List.take (Tryd.prog.cellsOf 3) (List.drop 1 [u0, u1, u2, u3])) = some y1 := hg 1 _ rfl
        have g2 : DataW.trod _ _ _ _ _ _ n' 3 (List.take (Tryd.prog.cellsOf 3) (List.drop 2 [u0, u1, u2, u3])) = some y2 := hg 2 _ rfl
        have g3 : DataW.trod _ _ _ _ _ _ n' 37 (List.take (Tryd.prog.cellsOf 37) (List.drop 3 [u0, u1, u2, u3])) = some y3 := hg 3 _ rfl
        rw [hc3] at g0 g1 g2
        rw [hc37] at g3
        obtain ⟨z0, e0, _, w0⟩ := DataW.trod_int Tryd.underlying3 g0
        obtain ⟨z1, e1, _, w1⟩ := DataW.trod_int Tryd.underlying3 g1
        obtain ⟨z2, e2, _, w2⟩ := DataW.trod_int Tryd.underlying3 g2
        have hok : ∀ z, (Lit.int .i64 z).wf = true → i64ok z := fun z wf => by
          have e3 : IntKind.i64.min = -9223372036854775808 := rfl
          have e4 : IntKind.i64.max = 9223372036854775807 := rfl
          simpa [Lit.wf, e3, e4, i64ok] using wf
        simp only [Prod.mk.injEq] at hD
        have hDj : DataW.weights Tryd.prog 37 y3.1 ⊆ DataW.weights Tryd.prog 29 d := by
          intro q hq
          rw [hx.1]
          simp only [DataW.weights, Tryd.underlying29, List.mem_cons, List.mem_append]
          refine .inr (.inl (weights_all (x := D j) (List.mem_map.2 ⟨j, List.mem_range.2 hj, rfl⟩) q ?_))
          rw [hD.1]
          simp [DataW.weights, Tryd.underlying39, DataW.weightsEach, hq]
        obtain ⟨l, hb, hl'⟩ := open_bytes (d := y3.1) (pl := y3.2) (u := u3) (by simpa using g3) (fun n hn => hw n (hDj hn))
        have a0 := hat 0 (by omega)
        have a1 := hat 1 (by omega)
        have a2 := hat 2 (by omega)
        have a3 := hat 3 (by omega)
        simp at e0 e1 e2 a0 a1 a2 a3
        subst e0 e1 e2
        refine ⟨⟨z0, z1, z2, l⟩, ⟨?_, a1, a2, u3, a3, hb⟩, hl', hok _ w0, hok _ w1, hok _ w2⟩
        have hz : (Addr.add a (j * 4)).add 0 = Addr.add a (j * 4) := by simp [Addr.add]
        first | exact a0 | (rw [← hz]; exact a0)
    obtain ⟨f, hf⟩ := choose_all each
    refine ⟨(List.range len).map f, ⟨some a, cap, by simp, by simpa using hl, hm, fun h0 => ?_⟩, fun x hx => ?_, fun x hx => ?_⟩
    · have h0 : 0 < len := by simpa using h0
      obtain ⟨b, off, spot⟩ := a
      have hspot : spot = none := by simpa [Addr.add] using World.cell?_spot (hf 0 h0).1.1
      subst hspot
      refine ⟨b, off, rfl, fun j x hj => ?_⟩
      obtain ⟨hj', rfl⟩ := range_get f len j x hj
      obtain ⟨⟨h1, h2, h3, v, h4, h5⟩, _, h6⟩ := hf j hj'
      rw [Lib.add_plain] at h1 h2 h3 h4
      rw [Lib.add_plain] at h2 h3 h4
      exact ⟨h1, h2, h3, ⟨v, h4, h5⟩, h6⟩
    · obtain ⟨j, hj, rfl⟩ := List.mem_map.1 hx
      exact (hf j (List.mem_range.1 hj)).2.1
    · obtain ⟨j, hj, rfl⟩ := List.mem_map.1 hx
      exact (hf j (List.mem_range.1 hj)).2.2
end Go.Proofs.YtnollfnjidbdcaaDoor.X

/- What the library's tables and variables hold, kept by whatever is done in new memory; numbers as text, text as numbers. -/
import Derived.Test.YtnollfnjidbdcaaDoorXBuild
import Derived.Test.YtnollfnjidbdcaaDoorXPlain
import Derived.WalkSmall
namespace Go.Proofs.YtnollfnjidbdcaaDoor.X
open Go.RowKit
set_option linter.unusedSimpArgs false
set_option linter.unusedVariables false

/-- What the functions of the library read. -/
structure Env (w : World) : Prop where
  gl : 8 ≤ w.heap.size
  mx : ∃ m, w.cell? ⟨0, 0, none⟩ = some (.int .i64 m)
  tab : Lib.TabIs Tryd.prog w "internal/strconv.uint64pow10" .u64 Lib.pow10Tab
  syn : ∃ tp p, w.var? Tryd.prog "strconv.ErrSyntax" = some #[.iface tp p]
  rng : ∃ tp p, w.var? Tryd.prog "strconv.ErrRange" = some #[.iface tp p]
theorem Env.below {B : Nat} {w w' : World} (h : Env w) (hb : Below B w w') (hB : 8 ≤ B) : Env w' := by
  obtain ⟨m, hm⟩ := h.mx
  obtain ⟨t1, p1, h1⟩ := h.syn
  obtain ⟨t2, p2, h2⟩ := h.rng
  exact ⟨Nat.le_trans h.gl hb.size, ⟨m, (hb.cell (p := ⟨0, 0, none⟩) (by simp; omega)).trans hm⟩, var?_below hb (g := 1) (by kernel_rfl) (by omega) h.tab, ⟨t1, p1, var?_below hb (g := 2) (by kernel_rfl) (by omega) h1⟩, ⟨t2, p2, var?_below hb (g := 3) (by kernel_rfl) (by omega) h2⟩⟩

/-- It returns v; what was there is as it was. -/
def Ret (w : World) (v : Value) (e : Ending) (w' : World) : Prop := e = .returned v ∧ Below w.heap.size w w'
theorem size_is (s : ByteArray) : s.size = s.data.toList.length := Lib.size_eq s
theorem below_grow (w : World) (os : Array Obj) : Below w.heap.size w (Sort.grow w os) :=
  ⟨rfl, rfl, rfl, by show w.heap.size ≤ (w.heap ++ os).size; rw [Array.size_append]; omega, fun k hk => by show (w.heap ++ os)[k]? = w.heap[k]?; rw [Array.getElem?_append_left hk]⟩
theorem below_drewN' (w : World) (n : Nat) : Below w.heap.size w (w.drewN n) := ⟨rfl, rfl, rfl, Nat.le_refl _, fun _ _ => rfl⟩

theorem itoa_any (n : Int) (h0 : -9223372036854775808 ≤ n) (h1 : n ≤ 9223372036854775807) (w : World) (E : Env w) :
    Calls Tryd.prog 37 #[.int .i64 n] w (Ret w (.string ⟨(Lib.itoa n).toArray⟩)) :=
  (Tryd.strconv_Itoa n h0 h1 w E.tab).mono fun e w' ⟨he, k, os, hw⟩ => by
    subst hw
    exact ⟨he, (below_drewN' w k).trans (below_grow (w.drewN k) os)⟩

/-- What Atoi hands back: the number, and whether there is no error. -/
def atoiV (l : List UInt8) : Int × Bool :=
  match Lib.atoiAll l with
  | .ok n => (n, true)
  | .range => (Lib.atoiSat l, false)
  | _ => (0, false)
def AtoiPost (l : List UInt8) (w : World) (e : Ending) (w' : World) : Prop :=
  ((atoiV l).2 = true ∧ e = .returned (.tuple #[.int .i64 (atoiV l).1, .nilIface]) ∨ (atoiV l).2 = false ∧ ∃ N, e = .returned (.tuple #[.int .i64 (atoiV l).1, .iface 101 (.pointer (some ⟨N, 0, none⟩))])) ∧ Below w.heap.size w w'
theorem atoi_any (s : ByteArray) (hs : s.size ≤ 281474976710656) (w : World) (E : Env w) : Calls Tryd.prog 48 #[.string s] w (AtoiPost s.data.toList w) := by
  obtain ⟨t1, p1, h1⟩ := E.syn
  obtain ⟨t2, p2, h2⟩ := E.rng
  unfold AtoiPost atoiV
  cases ha : Lib.atoiAll s.data.toList with
  | ok n =>
    refine (Tryd.strconv_Atoi_ok s (by omega) n ha w).mono fun e w' ⟨he, hw⟩ => ⟨.inl ⟨rfl, he⟩, ?_⟩
    rcases hw with rfl | ⟨t, rfl⟩
    · exact Below.refl _ _
    · exact Lib.bytesWorld_below w 5 t
  | range =>
    exact (Tryd.strconv_Atoi_range_var s hs ha t2 p2 w h2).mono fun e w' ⟨N, he, _, _, hb⟩ => ⟨.inr ⟨rfl, N, he⟩, hb⟩
  | _ =>
    exact (Tryd.strconv_Atoi_syntax_var s hs ha t1 p1 w h1).mono fun e w' ⟨N, he, _, _, hb⟩ => ⟨.inr ⟨rfl, N, he⟩, hb⟩
end Go.Proofs.YtnollfnjidbdcaaDoor.X

/- Set of package script, second part: a line that ends as it should. -/
import Derived.Test.YtnollfnjidbdcaaDoorXSetter
import Derived.Test.YtnollfnjidbdcaaDoorXSetting
namespace Go.Proofs.YtnollfnjidbdcaaDoor.X
open Go.RowKit
set_option linter.unusedSimpArgs false
set_option linter.unusedVariables false

theorem eighteen (ns : List Int) (h : ns.length = 18) (hb : ∀ n ∈ ns, i64ok n) : ∃ f : Nat → Int, ns = cfgL f ∧ ∀ k, i64ok (f k) := by
  refine ⟨fun k => ns.getD k 0, ?_, fun k => ?_⟩
  · match ns, h with
    | [_, _, _, _, _, _, _, _, _, _, _, _, _, _, _, _, _, _], _ => rfl
  · show i64ok (ns.getD k 0)
    rw [List.getD_eq_getElem?_getD]
    cases hk : ns[k]? with
    | none => simp [i64ok]
    | some n => exact hb n (List.mem_of_getElem? hk)
theorem cell_at {w : World} {b : Nat} {cs : Array Value} {t : TypeId} {fr : Nat × Nat} (hb : w.heap[b]? = some (.cells cs t fr)) (j : Nat) : w.cell? ⟨b, j, none⟩ = cs[j]? := Lib.cell_of_heap hb j

theorem wpList_store23 {ops : Array Oper} {rest : List Oper} {o : Oper} {a : Act} {w : World} {Q : Exit → Act → World → Prop} (hgd : o.guard = none) (x y : Operand) (ho : o.op = .store 23 x y) (g : Nat)
    (hx : a.eval x = .pointer (some ⟨g, 0, none⟩)) (c : Array Value) (hy : a.eval y = .agg c) (old : Array Value) (hg : w.heap[g]? = some (.cells old 23 (0, 0))) (hs : old.size = c.size) (hc : c.size = 18) (h1 : c.all (·.oneCell') = true)
    (h : wpList Tryd.prog ops Q rest (a.put o.dst undef) (w.setRow g c)) : wpList Tryd.prog ops Q (o :: rest) a w :=
  wpList_store_row hgd 23 x y ho g c hx hy 23 old hg (by rw [hc]; kernel_rfl) hs h1 h
theorem zs18_size : zs18.size = 18 := rfl
theorem zs18_one : zs18.all (·.oneCell') = true := by simp [zs18, Value.oneCell']
theorem cfgA_size (f : Nat → Int) : (cfgA f).size = 18 := rfl
theorem cfgA_one (f : Nat → Int) : (cfgA f).all (·.oneCell') = true := by simp [cfgA, Value.oneCell']
theorem wpList_load23 {ops : Array Oper} {rest : List Oper} {o : Oper} {a : Act} {w : World} {Q : Exit → Act → World → Prop} (hgd : o.guard = none) (x : Operand) (ho : o.op = .load 23 x) (g : Nat)
    (hx : a.eval x = .pointer (some ⟨g, 0, none⟩)) (c : Array Value) (hg : w.heap[g]? = some (.cells c 23 (0, 0))) (hc : c.size = 18)
    (h : wpList Tryd.prog ops Q rest (a.put o.dst (.agg c)) w) : wpList Tryd.prog ops Q (o :: rest) a w :=
  wpList_load_row hgd 23 x ho g hx 23 c (0, 0) _ hg Tryd.underlying23 rfl (by rw [hc]; kernel_rfl) h
theorem below_setRow {B g : Nat} {a w : World} (h : Below B a w) (hg : B ≤ g) (c : Array Value) : Below B a (w.setRow g c) :=
  ⟨h.os, h.tape, h.output, by show a.heap.size ≤ (w.heap.modify _ _).size; rw [Array.size_modify]; exact h.size, fun k hk => by
    show (w.heap.modify g _)[k]? = _
    rw [Array.getElem?_modify, if_neg (by omega)]
    exact h.block k hk⟩

set_option maxHeartbeats 2000000 in
set_option maxRecDepth 100000 in
theorem set_end (s : ByteArray) (hs : s.size ≤ 1000000) (w : World) (E : Env w) (hsuf : Lib.hasSuffix s.data.toList (ByteArray.mk #[10]).data.toList = true) : Calls Tryd.prog 9 #[.string s] w (SetPost s.data.toList w) := by
  have hset := setL_end hsuf
  obtain ⟨r, hr⟩ : ∃ r, Lib.trimSuffix s.data.toList (ByteArray.mk #[10]).data.toList = r := ⟨_, rfl⟩
  have hrl : r.length ≤ 1000000 := by have := trim_le s.data.toList (ByteArray.mk #[10]).data.toList; rw [hr, ← size_is] at this; omega
  rw [show (Lib.trimSuffix s.data.toList [10]) = r from hr] at hset
  have hB2 : Below w.heap.size w ((w.alloc (.cells zs18 23)).alloc (.cells zs18 23)) := ((Below.refl _ w).alloc (Nat.le_refl _) _).alloc (by simp) _
  have hX2 : ((w.alloc (.cells zs18 23)).alloc (.cells zs18 23)).heap[w.heap.size + 1]? = some (.cells zs18 23 (0, 0)) := by
    have := heap_alloc_new (w.alloc (.cells zs18 23)) (.cells zs18 23)
    rwa [World.size_alloc] at this
  have hN2 : ((w.alloc (.cells zs18 23)).alloc (.cells zs18 23)).heap[w.heap.size]? = some (.cells zs18 23 (0, 0)) := by
    rw [Below.heap_alloc _ _ _ (by simp)]
    exact heap_alloc_new w _
  have hz2 : ((w.alloc (.cells zs18 23)).alloc (.cells zs18 23)).heap.size = w.heap.size + 2 := by simp
  have HS := Lib.hid hsuf
  have HR := Lib.hid hr
  have HSET := Lib.hid hset
  have EN := Lib.hid E
  clear hsuf hset E hr
  go_enter Tryd.func9, Tryd.ntmps9
  go_wp2_with (go_at_call 23; refine (cutSuffix_any _ _ (by omega) _).mono ?_; rw [HS.out, HR.out]; rintro e w' ⟨rfl, rfl⟩)
  obtain ⟨W2, hW2⟩ : ∃ W2, ((w.alloc (.cells zs18 23)).alloc (.cells zs18 23)) = W2 := ⟨_, rfl⟩
  unfold zs18 at hW2 hB2 hX2 hN2 hz2
  rw [hW2] at hB2 hX2 hN2 hz2 ⊢
  clear hW2
  refine (split_any ⟨r.toArray⟩ (by rw [size_is]; simp; omega) W2 (EN.out.below hB2 EN.out.gl)).mono ?_
  rintro e W3 ⟨rfl, hS3, hB3⟩
  rw [hz2] at hS3 ⊢
  have HS3 := Lib.hid hS3
  have HB23 := Lib.hid hB3
  have HB3 := Lib.hid (hB2.trans (hB3.mono hB2.size))
  have HX3 := Lib.hid ((hB3.block _ (Array.getElem?_eq_some_iff.1 hX2).1).trans hX2)
  have HN3 := Lib.hid ((hB3.block _ (Array.getElem?_eq_some_iff.1 hN2).1).trans hN2)
  clear hS3 hB3 hB2 hX2 hN2 hz2
  have hz3 : w.heap.size + 1 < W3.heap.size := (Array.getElem?_eq_some_iff.1 HX3.out).1
  go_wp2_with fail
  refine (fields_any (w.heap.size + 1) W3).mono ?_
  rintro e W4 ⟨rfl, hg4, hB4⟩
  have hX4 := (hB4.block _ (Array.getElem?_eq_some_iff.1 HX3.out).1).trans HX3.out
  have hN4 := (hB4.block _ (Array.getElem?_eq_some_iff.1 HN3.out).1).trans HN3.out
  have hS4 := HS3.out.below hB4
  have hBB4 := HB3.out.trans (hB4.mono HB3.out.size)
  have CN := numbers_any (splitL r) (w.heap.size + 2) 0 (splitL r).length W3.heap.size 18 18 (w.heap.size + 1) 23 zs18.toList W4 (EN.out.below hBB4 EN.out.gl) ⟨Nat.le_refl _, by have := split_count r; unfold maxLen; omega⟩ ⟨Nat.le_refl _, by unfold maxLen; omega⟩ hS4 (fun l hl => by have := split_le _ _ hl; omega) (fun k hk => by rw [cell_at hg4]; exact ptrs18_get _ _ hk) hX4 (by unfold zs18; simp) (by have := EN.out.gl; omega) (by omega) (by omega)
  unfold NumsPost at CN
  have HN4 := Lib.hid hN4
  have HBB4 := Lib.hid hBB4
  clear hX4 hN4 hS4 hg4 hB4 hBB4
  cases hq : (if (splitL r).length = 18 then numsL (splitL r) else none) with
  | none =>
    rw [hq] at CN
    have HQ := Lib.hid hq
    have HCN := Lib.hid CN
    clear hq CN
    go_wp2_with fail
    refine HCN.out.mono ?_
    rintro e W5 ⟨hK, rfl⟩
    have HN5 := Lib.hid ((hK.block _ (Array.getElem?_eq_some_iff.1 HN4.out).1 (by omega)).trans HN4.out)
    have HK := Lib.hid hK
    clear hK
    go_wp2_with (refine wpList_store23 rfl (.tmp 2) (.tmp 20) rfl w.heap.size rfl zs18 rfl zs18 HN5.out rfl rfl zs18_one ?_)
    refine bodyPost_ret (results_cell_tmp Tryd.results9 _ _ w.heap.size 23 zs18 (0, 0) _ (.bool false) rfl rfl (setRow_heap _ _ _ _ _ _ HN5.out) Tryd.underlying23 rfl (by kernel_rfl)) rfl
      (setPost_none (HSET.out.trans HQ.out) (below_setRow (HBB4.out.trans (HK.out.below HBB4.out.size (by omega))) (Nat.le_refl _) _))
  | some ns =>
    rw [hq] at CN
    have h18 : (splitL r).length = 18 ∧ numsL (splitL r) = some ns := by
      split at hq
      · exact ⟨by assumption, hq⟩
      · cases hq
    obtain ⟨f, hf, hok⟩ := eighteen ns ((nums_length _ _ h18.2).trans h18.1) (nums_bounds _ _ h18.2)
    subst hf
    have HQ := Lib.hid hq
    have HOK := Lib.hid hok
    have HCN := Lib.hid CN
    clear hq CN h18 hok
    go_wp2_with fail
    refine HCN.out.mono ?_
    rintro e W5 ⟨hK, rfl, hX5⟩
    have HN5 := Lib.hid ((hK.block _ (Array.getElem?_eq_some_iff.1 HN4.out).1 (by omega)).trans HN4.out)
    have HX5 := Lib.hid (show W5.heap[w.heap.size + 1]? = some (.cells (cfgA f) 23 (0, 0)) from hX5)
    have HK := Lib.hid hK
    clear hK hX5
    go_wp2_with (first | (refine wpList_store23 rfl (.tmp 2) (.tmp 21) rfl w.heap.size rfl (cfgA f) rfl zs18 HN5.out rfl rfl (cfgA_one f) ?_) | (refine wpList_load23 rfl (.tmp 4) rfl (w.heap.size + 1) rfl _ HX5.out (cfgA_size f) ?_))
    refine bodyPost_ret (results_cell_tmp Tryd.results9 _ _ w.heap.size 23 (cfgA f) (0, 0) _ (.bool true) rfl rfl (setRow_heap _ _ _ _ _ _ HN5.out) Tryd.underlying23 rfl (by kernel_rfl)) rfl ?_
    refine ⟨below_setRow (HBB4.out.trans (HK.out.below HBB4.out.size (by omega))) (Nat.le_refl _) _, ?_⟩
    rw [HSET.out, HQ.out]
    exact ⟨f, rfl, HOK.out, rfl⟩

theorem set_any (s : ByteArray) (hs : s.size ≤ 1000000) (w : World) (E : Env w) : Calls Tryd.prog 9 #[.string s] w (SetPost s.data.toList w) := by
  cases h : Lib.hasSuffix s.data.toList (ByteArray.mk #[10]).data.toList with
  | false => exact set_noEnd s hs w h
  | true => exact set_end s hs w E h
end Go.Proofs.YtnollfnjidbdcaaDoor.X

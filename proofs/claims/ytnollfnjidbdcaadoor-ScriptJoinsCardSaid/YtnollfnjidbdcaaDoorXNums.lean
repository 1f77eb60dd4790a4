/- Words between blanks, and numbers of package script: words into places. -/
import Derived.Test.YtnollfnjidbdcaaDoorXPrint
namespace Go.Proofs.YtnollfnjidbdcaaDoor.X
open Go.RowKit
set_option linter.unusedSimpArgs false
set_option linter.unusedVariables false

/-! ### Split -/
theorem splitK_is : ∀ l : List UInt8, Lib.splitK [32] 0 (Lib.count l [32]) l = splitL l
  | [] => by rw [Lib.count_one]; rfl
  | c :: r => by
    have ih := splitK_is r
    by_cases h : c = 32
    · subst h
      have hix : Lib.index ((32 : UInt8) :: r) [32] = 0 := by rw [Lib.index]; simp [List.isPrefixOf]
      rw [Lib.count_cons_eq, Nat.add_comm, Lib.splitK, hix]
      simp only [splitL, if_true]
      rw [← ih]
      rfl
    · rw [Lib.count_cons_ne c 32 r h]
      have hp : ([32] : List UInt8).isPrefixOf (c :: r) = false := by simp [List.isPrefixOf, Ne.symm h]
      have hix : Lib.index (c :: r) [32] = if Lib.index r [32] == -1 then -1 else Lib.index r [32] + 1 := by rw [Lib.index, hp]; simp
      have hge := Lib.index_ge r [32]
      unfold splitL
      rw [if_neg h, ← ih]
      cases hn : Lib.count r [32] with
      | zero => rfl
      | succ n =>
        by_cases hm : Lib.index r [32] = -1
        · rw [Lib.count_miss hm] at hn; cases hn
        · have hm' : ¬ (Lib.index r [32] == -1) = true := fun e => hm (beq_iff_eq.1 e)
          rw [Lib.splitK, Lib.splitK, hix, if_neg hm', if_neg hm']
          rw [if_neg (fun e => by have := beq_iff_eq.1 e; omega)]
          have e1 : (Lib.index r [32] + 1).toNat = (Lib.index r [32]).toNat + 1 := by omega
          rw [e1]
          have e2 : (Lib.index r [32]).toNat + 1 + [(32 : UInt8)].length = ((Lib.index r [32]).toNat + [(32 : UInt8)].length) + 1 := by simp
          rw [e2]
          rfl
/-- Strings in a row of cells. -/
def StrsAt (w : World) (b off : Nat) (ws : List (List UInt8)) : Prop := ∀ j l, ws[j]? = some l → w.cell? ⟨b, off + j, none⟩ = some (.string ⟨l.toArray⟩)
theorem StrsAt.below {w w' : World} {b off : Nat} {ws : List (List UInt8)} (h : StrsAt w b off ws) (hb : Below w.heap.size w w') : StrsAt w' b off ws := fun j l hj => cell_below (h j l hj) hb
def SplitPost (l : List UInt8) (w : World) (e : Ending) (w' : World) : Prop :=
  e = .returned (.slice (some ⟨w.heap.size, 0, none⟩) (splitL l).length (splitL l).length) ∧ StrsAt w' w.heap.size 0 (splitL l) ∧ Below w.heap.size w w'
theorem split_any (s : ByteArray) (hs : s.size < 4294967281) (w : World) (E : Env w) : Calls Tryd.prog 25 #[.string s, .string ⟨#[32]⟩] w (SplitPost s.data.toList w) := by
  obtain ⟨m, hm⟩ := E.mx
  refine (Tryd.strings_Split s ⟨#[32]⟩ m w hs hm (by decide)).mono fun e w' ⟨he, hw⟩ => ?_
  have hall := Lib.splitB_all ⟨#[32]⟩ (by decide) 0 (Lib.countB s ⟨#[32]⟩) s rfl
  have hd := Lib.splitB_data ⟨#[32]⟩ 0 (Lib.countB s ⟨#[32]⟩) s
  have hk : Lib.splitK (ByteArray.mk #[32]).data.toList 0 (Lib.countB s ⟨#[32]⟩) s.data.toList = splitL s.data.toList := splitK_is s.data.toList
  rw [hk] at hd
  have hlen : (splitL s.data.toList).length = Lib.countB s ⟨#[32]⟩ + 1 := by rw [← hd, List.length_map, hall]
  subst hw
  refine ⟨by rw [he, hlen], fun j l hj => ?_, (Below.refl _ _).alloc (Nat.le_refl _) _⟩
  have hb := heap_alloc_new w (.cells (List.map Value.string (Lib.splitB ⟨#[32]⟩ 0 (Lib.countB s ⟨#[32]⟩) s)).toArray 9)
  rw [Lib.cell_of_heap hb, Nat.zero_add]
  rw [← hd, List.getElem?_map] at hj
  cases hx : (Lib.splitB ⟨#[32]⟩ 0 (Lib.countB s ⟨#[32]⟩) s)[j]? with
  | none => rw [hx] at hj; cases hj
  | some t =>
    rw [hx] at hj
    have ht : t.data.toList = l := Option.some.inj hj
    subst ht
    simp [hx]

/-! ### A block that is written -/
/-- But for block X, what was there is as it was. -/
structure Keeps (X : Nat) (w w' : World) : Prop where
  os : w'.os = w.os
  tape : w'.tape = w.tape
  output : w'.output = w.output
  size : w.heap.size ≤ w'.heap.size
  block : ∀ k, k < w.heap.size → k ≠ X → w'.heap[k]? = w.heap[k]?
theorem Keeps.refl (X : Nat) (w : World) : Keeps X w w := ⟨rfl, rfl, rfl, Nat.le_refl _, fun _ _ _ => rfl⟩
theorem Keeps.trans {X : Nat} {a b c : World} (h : Keeps X a b) (k : Keeps X b c) : Keeps X a c :=
  ⟨k.os.trans h.os, k.tape.trans h.tape, k.output.trans h.output, Nat.le_trans h.size k.size, fun i hi hx => (k.block i (Nat.lt_of_lt_of_le hi h.size) hx).trans (h.block i hi hx)⟩
theorem Keeps.of_below {X : Nat} {a b : World} (h : Below a.heap.size a b) : Keeps X a b := ⟨h.os, h.tape, h.output, h.size, fun i hi _ => h.block i hi⟩
theorem Keeps.setCell {X : Nat} (w : World) (o : Nat) (v : Value) : Keeps X w (w.setCell ⟨X, o, none⟩ v) :=
  ⟨rfl, rfl, rfl, by simp [World.setCell], fun k _ hk => Below.heap_setCell _ _ _ _ hk⟩
theorem Keeps.below {X B : Nat} {a b : World} (h : Keeps X a b) (hB : B ≤ a.heap.size) (hX : B ≤ X) : Below B a b :=
  ⟨h.os, h.tape, h.output, h.size, fun k hk => h.block k (by omega) (by omega)⟩
theorem Keeps.cell {X : Nat} {a b : World} (h : Keeps X a b) {p : Addr} {v : Value} (hp : a.cell? p = some v) (hX : p.block ≠ X) : b.cell? p = some v := by
  have hb := World.block_lt_of_cell? _ _ hp
  rw [← hp]
  unfold World.cell?
  rw [h.block _ hb hX]
theorem at_set {w : World} {k o : Nat} {cur : Array Value} {t : TypeId} {fr : Nat × Nat} (h : w.heap[k]? = some (.cells cur t fr)) (u : Value) : (w.setCell ⟨k, o, none⟩ u).heap[k]? = some (.cells (cur.setIfInBounds o u) t fr) := by
  simp [World.setCell, Array.getElem?_modify, h]

/-- The first cells hold these numbers. -/
def setN (cur : List Value) (ns : List Int) : List Value := ns.map (.int .i64) ++ cur.drop ns.length
theorem setN_set (cur : List Value) (ns : List Int) (n : Int) (h : ns.length < cur.length) : (setN cur ns).toArray.setIfInBounds ns.length (.int .i64 n) = (setN cur (ns ++ [n])).toArray := by
  unfold setN
  rw [List.setIfInBounds_toArray]
  congr 1
  rw [List.set_append_right _ _ (by simp)]
  simp only [List.length_map, Nat.sub_self, List.map_append, List.length_append, List.length_cons, List.length_nil, List.append_assoc]
  congr 1
  rw [List.drop_eq_getElem_cons h]
  rfl
theorem nums_snoc : ∀ (l : List (List UInt8)) (x : List UInt8), numsL (l ++ [x]) = match numsL l, numL x with | some t, some n => some (t ++ [n]) | _, _ => none
  | [], x => by
    simp only [List.nil_append, numsL]
    cases numL x <;> rfl
  | a :: r, x => by
    simp only [List.cons_append, numsL]
    rw [nums_snoc r x]
    cases numL a <;> cases numsL r <;> cases numL x <;> rfl
theorem nums_bad : ∀ (l : List (List UInt8)) (k : Nat) (x : List UInt8), l[k]? = some x → numL x = none → numsL l = none
  | [], k, x, h, _ => by simp at h
  | a :: r, k, x, h, hx => by
    unfold numsL
    cases k with
    | zero => simp at h; subst h; rw [hx]
    | succ k =>
      rw [nums_bad r k x (by simpa using h) hx]
      cases numL a <;> rfl
theorem nums_length : ∀ (l : List (List UInt8)) (ns : List Int), numsL l = some ns → ns.length = l.length
  | [], ns, h => by simp [numsL] at h; subst h; rfl
  | a :: r, ns, h => by
    unfold numsL at h
    cases ha : numL a with
    | none => rw [ha] at h; cases h
    | some n =>
      rw [ha] at h
      cases hr : numsL r with
      | none => rw [hr] at h; cases h
      | some t =>
        rw [hr] at h
        simp at h
        subst h
        simp [nums_length r t hr]

def NumsPost (ws : List (List UInt8)) (m X : Nat) (t : TypeId) (cur : List Value) (w : World) (e : Ending) (w' : World) : Prop :=
  Keeps X w w' ∧ match (if ws.length = m then numsL ws else none) with
    | some ns => e = .returned (.bool true) ∧ w'.heap[X]? = some (.cells (setN cur ns).toArray t (0, 0))
    | none => e = .returned (.bool false)
theorem numsPost_no {ws : List (List UInt8)} {m X : Nat} {t : TypeId} {cur : List Value} {w w' : World} (h : ws.length = m → numsL ws = none) (hk : Keeps X w w') : NumsPost ws m X t cur w (.returned (.bool false)) w' := by
  refine ⟨hk, ?_⟩
  split
  · rename_i ns hn
    split at hn
    · rename_i hm; rw [h hm] at hn; cases hn
    · cases hn
  · rfl
theorem numL_of (l : List UInt8) : numL l = if (numV l).2 = true then some (numV l).1 else none := rfl

set_option maxHeartbeats 2000000 in
set_option maxRecDepth 100000 in
theorem numbers_any (ws : List (List UInt8)) (b off cw g m cm X : Nat) (t : TypeId) (cur : List Value) (w : World) (E : Env w) (hcw : ws.length ≤ cw ∧ cw ≤ maxLen) (hcm : m ≤ cm ∧ cm ≤ maxLen)
    (hS : StrsAt w b off ws) (hlen : ∀ l ∈ ws, l.length ≤ 281474976710656) (hP : ∀ k, k < m → w.cell? ⟨g, k, none⟩ = some (.pointer (some ⟨X, k, none⟩)))
    (hX : w.heap[X]? = some (.cells cur.toArray t (0, 0))) (hcur : m ≤ cur.length) (hX8 : 8 ≤ X) (hXb : b ≠ X) (hXg : g ≠ X) :
    Calls Tryd.prog 24 #[.slice (some ⟨b, off, none⟩) ws.length cw, .slice (some ⟨g, 0, none⟩) m cm] w (NumsPost ws m X t cur w) := by
  obtain ⟨cw1, cw2⟩ := hcw
  obtain ⟨cm1, cm2⟩ := hcm
  unfold maxLen at cw2 cm2
  have HS := Lib.hid hS
  have HL := Lib.hid hlen
  have HP := Lib.hid hP
  have HX := Lib.hid hX
  have EN := Lib.hid E
  clear hS hlen hP hX E
  by_cases hwm : ws.length = m
  · have hne : ((ws.length : Int) != (m : Int)) = false := by rw [hwm]; simp
    have HWM := Lib.hid hwm
    clear hwm
    go_enter Tryd.func24, Tryd.ntmps24
    go_wp2_with fail
    go_loopw [5, 6, 7, 8, 16] (fun _ _ _ _ v16 wr => ∃ (k : Nat) (ns : List Int), k ≤ m ∧ v16 = .int .i64 k ∧ numsL (ws.take k) = some ns ∧ ns.length = k ∧ wr.heap[X]? = some (.cells (setN cur ns).toArray t (0, 0)) ∧ Keeps X w wr) (fun _ _ _ _ v16 _ => m - (intOf v16).toNat)
    case atStart => exact ⟨0, [], by omega, rfl, rfl, rfl, HX.out, Keeps.refl _ _⟩
    case round =>
      obtain ⟨k, ns, hk, rfl, hns, hnl, hXr, hK⟩ := hrel
      have HNS := Lib.hid hns
      have HNL := Lib.hid hnl
      have HXR := Lib.hid hXr
      have HK := Lib.hid hK
      clear hns hnl hXr hK
      by_cases hkm : k < m
      · have hkmi : (k : Int) < m := by omega
        obtain ⟨l, hl⟩ : ∃ l, ws[k]? = some l := ⟨ws[k]'(by have := HWM.out; omega), List.getElem?_eq_getElem _⟩
        have cP := HK.out.cell (HP.out k hkm) hXg
        have cS := HK.out.cell (HS.out k l hl) hXb
        have hkw : (k : Int) < ws.length := by have := HWM.out; omega
        have hE := EN.out.below (HK.out.below EN.out.gl hX8) (by omega)
        have hll := HL.out l (List.mem_of_getElem? hl)
        have CN := Lib.hid (number_any ⟨l.toArray⟩ (by rw [size_is]; exact hll) wr hE)
        have hdl : (ByteArray.mk l.toArray).data.toList = l := rfl
        rw [hdl] at CN
        have HLL := Lib.hid hl
        clear hl hll hE hdl
        cases hn : (numV l).2
        · have HN := Lib.hid hn
          rw [hn] at CN
          clear hn
          go_wp2_with (go_at_call 39; refine CN.out.mono ?_; rintro e w2 ⟨rfl, hb2⟩)
          go_ret
          exact numsPost_no (fun _ => nums_bad ws k l HLL.out (by rw [numL_of, HN.out]; rfl)) (HK.out.trans (Keeps.of_below hb2))
        · have HN := Lib.hid hn
          rw [hn] at CN
          clear hn
          obtain ⟨vk, hvk⟩ : ∃ vk, (setN cur ns)[k]? = some vk := ⟨(setN cur ns)[k]'(by unfold setN; simp; have := HNL.out; omega), List.getElem?_eq_getElem _⟩
          have HVK := Lib.hid hvk
          clear hvk
          go_wp2_with (go_at_call 39; refine CN.out.mono ?_; rintro e w2 ⟨rfl, hb2⟩; have hX2 := (hb2.block X (Array.getElem?_eq_some_iff.1 HXR.out).1).trans HXR.out; have cX2 : w2.cell? ⟨X, k, none⟩ = some vk := (by rw [Lib.cell_of_heap hX2]; simpa using HVK.out); have fX2 : w2.frozen? ⟨X, k, none⟩ = false := Lib.frozen_of_heap hX2 k; have HX2 := Lib.hid hX2; have HB2 := Lib.hid hb2; clear hX2 hb2)
          go_roundw
          case rel =>
            refine ⟨k + 1, ns ++ [(numV l).1], by omega, by go_num, ?_, by simp; exact HNL.out, ?_, (HK.out.trans (Keeps.of_below HB2.out)).trans (Keeps.setCell _ _ _)⟩
            · rw [List.take_add_one, HLL.out, Option.toList_some, nums_snoc, HNS.out, numL_of, HN.out]
              rfl
            · have h := at_set (o := k) HX2.out (.int .i64 (numV l).1)
              have e := HNL.out
              rw [← setN_set cur ns _ (by omega), e]
              exact h
          case measure => simp [intOf]; omega
      · have hkm' : k = m := by omega
        have hkn : ¬ (k : Int) < m := by omega
        clear hkm
        go_wp2_with fail
        go_ret
        refine ⟨HK.out, ?_⟩
        have h1 := HNS.out
        rw [List.take_of_length_le (by have := HWM.out; omega)] at h1
        rw [if_pos HWM.out, h1]
        exact ⟨rfl, HXR.out⟩
  · have hne : ((ws.length : Int) != (m : Int)) = true := by rw [bne_iff_ne]; omega
    have HWM := Lib.hid hwm
    clear hwm
    go_enter Tryd.func24, Tryd.ntmps24
    go_wp2_with fail
    go_ret
    exact numsPost_no (fun h => absurd h HWM.out) (Keeps.refl _ _)
end Go.Proofs.YtnollfnjidbdcaaDoor.X

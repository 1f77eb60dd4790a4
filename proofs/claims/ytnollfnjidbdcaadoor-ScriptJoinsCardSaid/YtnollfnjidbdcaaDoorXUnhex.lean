/- unhex of package script: the bytes of digits behind an x. -/
import Derived.Test.YtnollfnjidbdcaaDoorXNum
namespace Go.Proofs.YtnollfnjidbdcaaDoor.X
open Go.RowKit
set_option linter.unusedSimpArgs false
set_option linter.unusedVariables false

def UnhexPost (l : List UInt8) (w : World) (e : Ending) (w' : World) : Prop :=
  Below w.heap.size w w' ∧ match unhexL l with
    | some d => ∃ v, e = .returned (.tuple #[v, .bool true]) ∧ w'.ownsRow w.heap.size 5 1 v d.length (Lib.byteCells d)
    | none => e = .returned (.tuple #[.slice none 0 0, .bool false])
theorem unhexPost_none {l : List UInt8} {w w' : World} (h : unhexL l = none) (hb : Below w.heap.size w w') : UnhexPost l w (.returned (.tuple #[.slice none 0 0, .bool false])) w' := by
  refine ⟨hb, ?_⟩
  rw [h]

theorem unhex_noPrefix (l : List UInt8) (h : Lib.hasPrefix l [120] = false) : unhexL l = none := by
  cases l with
  | nil => rfl
  | cons c r =>
    show (if c = 120 then pairsL r else none) = none
    rw [if_neg]
    rintro rfl
    simp [Lib.hasPrefix, List.isPrefixOf] at h
theorem unhex_prefix (l : List UInt8) (h : Lib.hasPrefix l [120] = true) : ∃ r, l = 120 :: r ∧ Lib.trimPrefix l [120] = r ∧ unhexL l = pairsL r := by
  cases l with
  | nil => simp [Lib.hasPrefix, List.isPrefixOf] at h
  | cons c r =>
    simp [Lib.hasPrefix, List.isPrefixOf] at h
    subst h
    exact ⟨r, rfl, by simp [Lib.trimPrefix, Lib.hasPrefix, List.isPrefixOf], by simp [unhexL]⟩
theorem pairs_odd : ∀ (r : List UInt8), r.length % 2 = 1 → pairsL r = none
  | [], h => by simp at h
  | [_], _ => rfl
  | a :: b :: r, h => by
    unfold pairsL
    rw [pairs_odd r (by simp at h; omega)]
    split <;> rfl

theorem cutPrefix_any (s p : ByteArray) (w : World) : Calls Tryd.prog 53 #[.string s, .string p] w fun e w' =>
    e = .returned (.tuple #[.string ⟨(Lib.trimPrefix s.data.toList p.data.toList).toArray⟩, .bool (Lib.hasPrefix s.data.toList p.data.toList)]) ∧ w = w' :=
  (Tryd.strings_CutPrefix s p w).mono fun _ _ ⟨a, b⟩ => ⟨a, b.symm⟩
theorem ownsRow_below {lo e sz n : Nat} {w w' : World} {v : Value} {xs : List Value} (h : w.ownsRow lo e sz v n xs) (hb : Below w.heap.size w w') : w'.ownsRow lo e sz v n xs := by
  refine ⟨h.1, ?_⟩
  rcases h.2 with h | ⟨g, cap, cur, hv, h1, h2, r⟩
  · exact .inl h
  · exact .inr ⟨g, cap, cur, hv, h1, (hb.block g (Array.getElem?_eq_some_iff.1 h2).1).trans h2, r⟩
theorem ownsRow_iterNe {lo e sz n it : Nat} {w : World} {v : Value} {xs : List Value} (h : w.ownsRow lo e sz v n xs) (hne : v.ownBlock ≠ some it) (s : ByteArray) (p : Nat) : (w.iterAt it s p).ownsRow lo e sz v n xs := by
  refine ⟨h.1, ?_⟩
  rcases h.2 with h | ⟨g, cap, cur, hv, h1, h2, r⟩
  · exact .inl h
  · exact .inr ⟨g, cap, cur, hv, h1, by rw [Lib.iterAt_other _ _ _ _ _ (fun e => hne (by rw [hv, ← e]; rfl))]; exact h2, r⟩
theorem ownsRow_not_iter {lo e sz n it pos : Nat} {w : World} {v : Value} {xs : List Value} {s : ByteArray} (h : w.ownsRow lo e sz v n xs) (hk : w.heap[it]? = some (.stringIter s pos)) : v.ownBlock ≠ some it := by
  rcases h.2 with ⟨h, _⟩ | ⟨g, cap, cur, hv, h1, h2, r⟩
  · rw [h]; simp [Value.ownBlock]
  · rw [hv]
    simp only [Value.ownBlock, ne_eq, Option.some.injEq]
    rintro rfl
    rw [h2] at hk
    cases hk

/-- Where unhex's loop stands: k bytes have been read. -/
def Half (r : List UInt8) (k : Nat) (D : List UInt8) (half : Int) : Prop :=
  (k % 2 = 0 ∧ half = -1 ∧ pairsL (r.take k) = some D) ∨ (∃ j x, k = j + 1 ∧ j % 2 = 0 ∧ r[j]? = some x ∧ half = nib x ∧ 0 ≤ nib x ∧ pairsL (r.take j) = some D)
def UnRel (w : World) (r : List UInt8) (it : Nat) (v5 v6 : Value) (wr : World) : Prop :=
  ∃ (k : Nat) (D : List UInt8) (half : Int), v6 = .int .i64 half ∧ k ≤ r.length ∧ wr.heap[it]? = some (.stringIter ⟨r.toArray⟩ k) ∧ wr.ownsRow w.heap.size 5 1 v5 D.length (Lib.byteCells D) ∧ Below w.heap.size w wr ∧ D.length ≤ k ∧ Half r k D half
theorem pairs_bad : ∀ (r : List UInt8) (k : Nat) (x : UInt8), r[k]? = some x → nib x < 0 → pairsL r = none
  | [], k, x, h, _ => by simp at h
  | [_], _, _, _, _ => rfl
  | a :: b :: r, k, x, h, hx => by
    unfold pairsL
    match k, h with
    | 0, h => simp at h; subst h; rw [if_pos (.inl hx)]
    | 1, h => simp at h; subst h; rw [if_pos (.inr hx)]
    | k + 2, h =>
      rw [pairs_bad r k x (by simpa using h) hx]
      split <;> rfl
theorem pairs_snoc : ∀ (r D : List UInt8) (a b : UInt8), pairsL r = some D → 0 ≤ nib a → 0 ≤ nib b → pairsL (r ++ [a, b]) = some (D ++ [UInt8.ofNat (nib a * 16 + nib b).toNat])
  | [], D, a, b, h, ha, hb => by
    simp [pairsL] at h
    subst h
    simp only [List.nil_append, pairsL]
    rw [if_neg (by omega)]
    rfl
  | [_], D, a, b, h, ha, hb => by simp [pairsL] at h
  | c :: d :: r, D, a, b, h, ha, hb => by
    unfold pairsL at h
    simp only [List.cons_append]
    unfold pairsL
    split at h
    · cases h
    · rename_i hcd
      rw [if_neg hcd]
      cases hr : pairsL r with
      | none => rw [hr] at h; cases h
      | some t =>
        rw [hr] at h
        simp at h
        subst h
        rw [pairs_snoc r t a b hr ha hb]
        rfl
theorem or_nib (a b : Int) (ha : 0 ≤ a) (ha' : a < 16) (hb : 0 ≤ b) (hb' : b < 16) : bits BinOp.or IntKind.i64 (wrap64 (a * 16)) b % 256 = a * 16 + b := by
  have h : ∀ x y : Fin 16, bits BinOp.or IntKind.i64 (wrap64 ((x.val : Int) * 16)) (y.val : Int) % 256 = (x.val : Int) * 16 + (y.val : Int) := by decide +kernel
  obtain ⟨x, rfl⟩ : ∃ x : Nat, a = x := ⟨a.toNat, by omega⟩
  obtain ⟨y, rfl⟩ : ∃ y : Nat, b = y := ⟨b.toNat, by omega⟩
  exact h ⟨x, by omega⟩ ⟨y, by omega⟩
theorem byte_of (n : Int) (h0 : 0 ≤ n) (h1 : n < 256) : ((UInt8.ofNat n.toNat).toNat : Int) = n := by
  simp [UInt8.toNat_ofNat]; omega
theorem cells_snoc (a : List UInt8) (p : UInt8) : Lib.byteCells (a ++ [p]) = Lib.byteCells a ++ [.int .u8 p.toNat] := by simp [Lib.byteCells]
theorem take_two (r : List UInt8) (j : Nat) (y x : UInt8) (h1 : r[j]? = some y) (h2 : r[j + 1]? = some x) : r.take (j + 2) = r.take j ++ [y, x] := by
  rw [List.take_add_one, h2, List.take_add_one, h1]; simp
theorem cell_new1 (w : World) (x : Value) (t : TypeId) : ∀ j u, [x][j]? = some u → (w.alloc (.cells #[x] t)).cell? ((⟨w.heap.size, 0, none⟩ : Addr).add j) = some u := by
  intro j u hj
  match j, hj with
  | 0, hj => simp at hj; subst hj; simp [Addr.add]
theorem ownsRow_lo {lo e sz n : Nat} {w : World} {v : Value} {xs : List Value} (h : w.ownsRow lo e sz v n xs) : ∀ q, v.ownBlock = some q → lo ≤ q := by
  intro q hq
  rcases h.2 with ⟨h, _⟩ | ⟨g, cap, cur, hv, h1, h2, r⟩
  · rw [h] at hq; simp [Value.ownBlock] at hq
  · rw [hv] at hq; simp [Value.ownBlock] at hq; omega
theorem half_start (r : List UInt8) : Half r 0 [] (-1) := .inl ⟨rfl, rfl, rfl⟩
theorem nib_far (x : UInt8) (h : ¬ x.toNat < 128) : nib x = -1 := by
  unfold nib
  exact indexByte_miss _ _ (fun c hc e => by have := dgS_small c hc; omega)
theorem indexByte_lt : ∀ (l : List UInt8) (c : UInt8), Lib.indexByte l c < l.length
  | [], _ => by simp [Lib.indexByte]
  | b :: l, c => by
    have ih := indexByte_lt l c
    rw [Lib.indexByte]
    simp only [List.length_cons]
    repeat' split
    all_goals omega
theorem nib_lt (x : UInt8) : nib x < 16 := by
  exact indexByte_lt dgs x

set_option maxHeartbeats 2000000 in
set_option maxRecDepth 100000 in
theorem unhex_any (s : ByteArray) (hs : s.size ≤ 1099511627776) (w : World) : Calls Tryd.prog 43 #[.string s] w (UnhexPost s.data.toList w) := by
  cases hp : Lib.hasPrefix s.data.toList [120]
  · have hn := Lib.hid (unhex_noPrefix _ hp)
    have hp' : Lib.hasPrefix s.data.toList (ByteArray.mk #[120]).data.toList = false := hp
    have HP := Lib.hid hp'
    clear hp hp'
    go_enter Tryd.func43, Tryd.ntmps43
    go_wp2_with (go_at_call 53; refine (cutPrefix_any _ _ _).mono ?_; rw [HP.out]; rintro e w' ⟨rfl, rfl⟩)
    go_ret2
    exact unhexPost_none hn.out (Below.refl _ _)
  · obtain ⟨r, hr, ht, hu⟩ := unhex_prefix _ hp
    have hp' : Lib.hasPrefix s.data.toList (ByteArray.mk #[120]).data.toList = true := hp
    have ht' : Lib.trimPrefix s.data.toList (ByteArray.mk #[120]).data.toList = r := ht
    have hrl : r.length ≤ 1099511627776 := by have := congrArg List.length hr; rw [← size_is] at this; simp at this; omega
    have HP := Lib.hid hp'
    have HT := Lib.hid ht'
    have HU := Lib.hid hu
    obtain ⟨rs, hrs⟩ : ∃ rs : ByteArray, (⟨r.toArray⟩ : ByteArray) = rs := ⟨_, rfl⟩
    have hsz : rs.size = r.length := by rw [← hrs, size_is]
    have hrd : rs.data.toList = r := by rw [← hrs]
    have HRS := Lib.hid hrs
    have HSZ := Lib.hid hsz
    have HRD := Lib.hid hrd
    clear hp hp' ht ht' hu hr hrs hsz hrd
    rcases Nat.mod_two_eq_zero_or_one r.length with he | he
    · have h2 : (((r.length : Int) % 2) != 0) = false := by simp; omega
      obtain ⟨m, hm⟩ : ∃ m, r.length = 2 * m := ⟨r.length / 2, by omega⟩
      have hq : (r.length : Int) / 2 = m := by omega
      obtain ⟨i0, hi, hz0, hz1, hz2⟩ := info_parts info5
      obtain ⟨wm, hmk, hownm, hgm⟩ := run_make_own (P := Tryd.prog) w w.heap.size 37 5 i0 (.int .u8 0) 1 Tryd.underlying37 hi hz0 hz1 .i64 .i64 m (by rw [hz2]; omega) (by unfold maxLen; omega) (Nat.le_refl _)
      have HEV := Lib.hid hm
      have HOW := Lib.hid hownm
      have HGM := Lib.hid hgm
      clear he hm hownm hgm
      go_enter Tryd.func43, Tryd.ntmps43
      go_wp2_with (go_at_call 53; refine (cutPrefix_any _ _ _).mono ?_; rw [HP.out, HT.out]; rintro e w' ⟨rfl, rfl⟩)
      have hbm : Below w.heap.size w wm := (Below.refl _ w).grown HGM.out (Nat.le_refl _) (fun k e => by cases e)
      obtain ⟨it, hit⟩ : ∃ it, wm.heap.size = it := ⟨_, rfl⟩
      have hki := World.iter_heap wm ⟨r.toArray⟩ 0
      rw [hit] at hki ⊢
      have hwi : w.heap.size ≤ it := by rw [← hit]; exact hbm.size
      go_loopw [5, 6] (fun v5 v6 wr => UnRel w r it v5 v6 wr) (fun _ _ wr => r.length - wr.iterPos it)
      case atStart => exact ⟨0, [], -1, rfl, by omega, hki, ownsRow_below HOW.out ((Below.refl _ wm).alloc (Nat.le_refl _) _), hbm.trans (((Below.refl _ wm).alloc (Nat.le_refl _) _).mono hbm.size), by simp, half_start r⟩
      case round =>
        obtain ⟨k, D, half, rfl, hk, hkk, how, hB, hD, hh⟩ := hrel
        have hHOW := Lib.hid how
        have hHB := Lib.hid hB
        have hHH := Lib.hid hh
        clear how hB hh hki hmk HOW HGM
        have hsr : (ByteArray.mk r.toArray).size = r.length := by rw [size_is]
        by_cases hp : k < r.length
        · obtain ⟨x, hx⟩ : ∃ x, r[k]? = some x := ⟨r[k], List.getElem?_eq_getElem hp⟩
          have hp' : k < (ByteArray.mk r.toArray).size := by rw [hsr]; exact hp
          have hxx : (ByteArray.mk r.toArray)[k]'hp' = x := by
            rw [List.getElem?_eq_getElem hp] at hx
            exact Option.some.inj hx
          have hmu : wr.iterPos it = k := by simp [World.iterPos, hkk]
          have HX := Lib.hid hx
          have hne := ownsRow_not_iter hHOW.out hkk
          by_cases h128 : x.toNat < 128
          · have hnext : ∀ ty, (Instr.next (.pointer (some ⟨it, 0, none⟩)) true ty).run Tryd.prog wr = .ok (.tuple #[.bool true, .int .i64 k, .int .i32 x.toNat]) (wr.iterAt it ⟨r.toArray⟩ (k + 1)) := fun ty => by
              have := Lib.run_next_ascii_at (P := Tryd.prog) wr it ⟨r.toArray⟩ k ty hkk hp' (by rw [hxx]; exact h128)
              rwa [hxx] at this
            have hk1 := Lib.iterAt_heap wr it ⟨r.toArray⟩ k (k + 1) hkk
            have ho1 := ownsRow_iterNe hHOW.out hne ⟨r.toArray⟩ (k + 1)
            have hb1 : Below w.heap.size w (wr.iterAt it ⟨r.toArray⟩ (k + 1)) := Lib.below_iterAt hHB.out hwi _ _
            generalize wr.iterAt it ⟨r.toArray⟩ (k + 1) = W1 at hnext hk1 ho1 hb1
            have HK1 := Lib.hid hk1
            have HO1 := Lib.hid ho1
            have HB1 := Lib.hid hb1
            have HNE := Lib.hid hne
            clear hk1 ho1 hb1 hne hkk hxx hx
            by_cases hn : nib x < 0
            · have hbad := Lib.hid (show unhexL s.data.toList = none by rw [HU.out]; exact pairs_bad r k x HX.out hn)
              go_wp2_with (go_at_call 54; refine (nibble_ascii x h128 _).mono ?_; rintro e w2 ⟨rfl, hb2⟩)
              go_ret2
              exact unhexPost_none hbad.out (HB1.out.trans (hb2.mono HB1.out.size))
            · have hn0 : 0 ≤ nib x := by omega
              rcases hHH.out with ⟨e0, rfl, e1⟩ | ⟨j, y, e0, e1, e2, rfl, e3, e4⟩
              · have E0 := Lib.hid e0
                have E1 := Lib.hid e1
                clear e0 e1 hn
                go_wp2_with (go_at_call 54; refine (nibble_ascii x h128 _).mono ?_; rintro e w2 ⟨rfl, hb2⟩)
                have hk2 := (hb2.block it (Array.getElem?_eq_some_iff.1 HK1.out).1).trans HK1.out
                go_roundw
                case rel => exact ⟨k + 1, D, nib x, rfl, by omega, hk2, ownsRow_below HO1.out hb2, HB1.out.trans (hb2.mono HB1.out.size), by omega, .inr ⟨k, x, rfl, E0.out, HX.out, rfl, hn0, E1.out⟩⟩
                case measure =>
                  have hmu2 : w2.iterPos it = k + 1 := by simp [World.iterPos, hk2]
                  rw [hmu, hmu2]
                  omega
              · have E0 := Lib.hid e0
                have E1 := Lib.hid e1
                have E2 := Lib.hid e2
                have E4 := Lib.hid e4
                clear e0 e1 e2 e4 hn
                go_wp2_with (first | (go_at_call 54; refine (nibble_ascii x h128 _).mono ?_; rintro e w2 ⟨rfl, hb2⟩; have HK2 := Lib.hid ((hb2.block it (Array.getElem?_eq_some_iff.1 HK1.out).1).trans HK1.out); have HO2 := Lib.hid (ownsRow_below HO1.out hb2); have HB2 := Lib.hid (HB1.out.trans (hb2.mono HB1.out.size)); clear hb2) | (at_builtin; refine wpList_append_own _ rfl _ _ 37 rfl w.heap.size 5 i0 (.int .u8 0) 1 1 Tryd.underlying37 hi hz0 hz1 hz2 rfl (by decide) _ _ _ rfl (HO2.out.alloc _) ⟨w2.heap.size, 0, none⟩ 1 1 [.int .u8 (bits BinOp.or IntKind.i64 (wrap64 (nib y * 16)) (nib x) % 256)] rfl rfl (cell_new1 _ _ _) (by simp [Value.oneCell']) (by unfold maxLen; omega) (by omega) (by have := HB2.out.size; simp; omega) ?_; intro v' w3 hown' hgrow _; have HO3 := Lib.hid hown'; have HG3 := Lib.hid hgrow; clear hown' hgrow))
                have hlt : it < w2.heap.size := (Array.getElem?_eq_some_iff.1 HK2.out).1
                have hk3 : w3.heap[it]? = some (.stringIter ⟨r.toArray⟩ (k + 1)) := by
                  rw [HG3.out.block it (by simp; omega) (fun e => HNE.out e.symm), Lib.alloc_old w2 _ it hlt]
                  exact HK2.out
                have hv := or_nib (nib y) (nib x) e3 (nib_lt y) hn0 (nib_lt x)
                go_roundw
                case rel =>
                  refine ⟨k + 1, D ++ [UInt8.ofNat (nib y * 16 + nib x).toNat], -1, rfl, by omega, hk3, ?_, ?_, by simp; have := E0.out; omega, .inl ⟨by have := E0.out; have := E1.out; omega, rfl, ?_⟩⟩
                  · have h := HO3.out
                    rw [hv] at h
                    rw [cells_snoc, byte_of _ (by have := nib_lt y; have := nib_lt x; omega) (by have := nib_lt y; have := nib_lt x; omega)]
                    simpa using h
                  · exact (HB2.out.alloc HB2.out.size _).grown HG3.out (by have := HB2.out.size; simp; omega) (fun q hq => (ownsRow_lo HO2.out q hq))
                  · have hj := E0.out
                    subst hj
                    rw [show j + 1 + 1 = j + 2 by rfl, take_two r j y x E2.out HX.out]
                    exact pairs_snoc _ _ _ _ E4.out e3 hn0
                case measure =>
                  have hmu2 : w3.iterPos it = k + 1 := by simp [World.iterPos, hk3]
                  rw [hmu, hmu2]
                  omega
          · obtain ⟨d0, d1⟩ := decode_far ⟨r.toArray⟩ k hp' (by rw [hxx]; exact h128)
            have hnext := fun ty => Lib.run_next_any_at (P := Tryd.prog) wr it ⟨r.toArray⟩ k ty hkk hp'
            have hbad := Lib.hid (show unhexL s.data.toList = none by rw [HU.out]; exact pairs_bad r k x HX.out (by rw [nib_far x h128]; decide))
            have hb1 : Below w.heap.size w (wr.iterAt it ⟨r.toArray⟩ (k + (Utf8.decode ⟨r.toArray⟩ k).2)) := Lib.below_iterAt hHB.out hwi _ _
            generalize wr.iterAt it ⟨r.toArray⟩ (k + (Utf8.decode ⟨r.toArray⟩ k).2) = W1 at hnext hb1
            generalize (Utf8.decode ⟨r.toArray⟩ k).1 = R at hnext d0 d1
            have HB1 := Lib.hid hb1
            clear hb1 hne hkk hxx hx
            go_wp2_with (go_at_call 54; refine (nibble_far _ (by omega) (by omega) _).mono ?_; rintro e w2 ⟨q, hq, rfl, hb2⟩)
            go_ret2
            exact unhexPost_none hbad.out (HB1.out.trans (hb2.mono HB1.out.size))
        · have hnext : ∀ ty, (Instr.next (.pointer (some ⟨it, 0, none⟩)) true ty).run Tryd.prog wr = _ := fun ty => Lib.run_next_end_at wr it ⟨r.toArray⟩ k ty hkk (by rw [hsr]; exact hp)
          clear hkk
          go_wp2
          go_ret2
          refine ⟨hHB.out, ?_⟩
          have hkr : k = r.length := by omega
          rcases hHH.out with ⟨h0, _, h1⟩ | ⟨j, x, h0, h1, _⟩
          · rw [HU.out]
            rw [List.take_of_length_le (by omega)] at h1
            rw [h1]
            exact ⟨_, rfl, hHOW.out⟩
          · have := HEV.out; omega
    · have hn := Lib.hid (show unhexL s.data.toList = none by rw [HU.out]; exact pairs_odd r he)
      have h2 : (((r.length : Int) % 2) != 0) = true := by rw [bne_iff_ne]; omega
      clear he
      go_enter Tryd.func43, Tryd.ntmps43
      go_wp2_with (go_at_call 53; refine (cutPrefix_any _ _ _).mono ?_; rw [HP.out, HT.out]; rintro e w' ⟨rfl, rfl⟩)
      go_ret2
      exact unhexPost_none hn.out (Below.refl _ _)
end Go.Proofs.YtnollfnjidbdcaaDoor.X

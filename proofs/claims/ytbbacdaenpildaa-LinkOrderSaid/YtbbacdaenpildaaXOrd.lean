/- LinkOrder answers true: the walk, its great statements met by the pieces. -/
import Derived.Test.YtbbacdaenpildaaXOrdMem
import Derived.Test.YtbbacdaenpildaaXOrdRm
import Derived.Test.YtbbacdaenpildaaXOrdRecv
import Derived.Test.YtbbacdaenpildaaXOrdGot
import Derived.Test.YtbbacdaenpildaaXOrdSend
import Derived.Test.YtbbacdaenpildaaXOrdPoll
import Derived.Test.YtbbacdaenpildaaXOrdApp
import Derived.Test.YtbbacdaenpildaaXOrdNew
import Derived.Test.YtbbacdaenpildaaXOrdPick
namespace Go.Proofs.Ytbbacdaenpildaa.X
open Go.RowKit Go.Proofs.Ytbbacdaenpildaa.XTick
set_option linter.unusedSimpArgs false

set_option maxHeartbeats 4000000 in
set_option maxRecDepth 100000 in
theorem linkOrder_true (w : World) (xa : Option Addr) (xb xo T xl : Nat) (f : Nat → Int × Int × Int) (hT : T ≤ 140737488355328) (hxa : 0 < T → xa = some ⟨xb, xo, none⟩)
    (hy : ∀ j, j < T → w.cell? ⟨xb, xo + j * 3, none⟩ = some (.int .i64 (f j).1) ∧ w.cell? ⟨xb, xo + j * 3 + 1, none⟩ = some (.int .i64 (f j).2.1) ∧ w.cell? ⟨xb, xo + j * 3 + 2, none⟩ = some (.int .i64 (f j).2.2)) :
    Calls Try.prog 3 #[.slice xa T xl] w fun e w' => e = .returned (.bool true) ∧ Below w.heap.size w w' := by
  have hz18 : (#[Value.int .i64 0, .int .i64 0, .int .i64 0, .int .i64 0, .int .i64 0, .int .i64 0, .int .i64 0, .int .i64 0, .int .i64 0, .int .i64 0, .int .i64 0, .int .i64 0, .int .i64 0, .int .i64 0, .int .i64 0, .int .i64 0, .int .i64 0, .int .i64 0]).size = 18 := rfl
  have HY := Lib.hid hy
  have HXA := Lib.hid hxa
  clear hy hxa
  go_enter Try.func3, Try.ntmps3
  go_wp2_with fail
  refine (config_any _).mono ?_
  rintro e0 w0 ⟨rfl, h0⟩
  go_upto_region 3 with (with_reducible refine wpList_store24 rfl (.tmp 3) (.tmp 16) rfl rfl rfl _ hz18 ?_; intro w1 hc1 hb1; have c15 := at_cell hc1 (o := 15) rfl; have c16 := at_cell hc1 (o := 16) rfl; have fC := at_free hc1; have HC1 := Lib.hid hc1; clear hc1)
  obtain ⟨C, hC⟩ : ∃ C, w0.heap.size = C := ⟨_, rfl⟩
  obtain ⟨w2, hw2⟩ : ∃ w2, (w1.setCell ⟨w0.heap.size, 15, none⟩ (.int .i64 1073741824)).setCell ⟨w0.heap.size, 16, none⟩ (.int .i64 1073741824) = w2 := ⟨_, rfl⟩
  have hc2 : w2.heap[C]? = some (.cells cfg2.toArray 24 (0, 0)) := by rw [← hw2, ← hC]; exact at_same (at_same HC1.out _) _
  have hb2 : Below w.heap.size w w2 := by
    rw [← hw2]; exact ((h0.trans (hb1.mono h0.size)).setCell h0.size _).setCell h0.size _
  rw [hw2, hC]
  have HC2 := Lib.hid hc2
  have HB2 := Lib.hid hb2
  clear hw2 hc2 hb2 HC1 hb1 h0 c15 c16 fC hz18 hC
  refine ord_new HC2 HB2 (Lib.hid ?_)
  intros
  rename_i u4 wc hcut
  obtain ⟨EB, La, Lb, ha, hb, rfl, hla, hlb, hle, nea, neb, ce, bel, two⟩ := hcut
  have CE := Lib.hid ce
  have BE := Lib.hid bel
  have TW := Lib.hid two
  clear ce bel two HC2 HB2
  go_wp2_with fail
  obtain ⟨W0, hW0⟩ : ∃ W0, wc.heap.size = W0 := ⟨_, rfl⟩
  rw [hW0]
  have hww : w.heap.size ≤ W0 := by rw [← hW0]; exact BE.out.size
  go_loopg [8] 400 (fun kq v8 wr => OrdRel w (W0 + 1 + 1 + 1) EB W0 (W0 + 1) (W0 + 1 + 1) La Lb kq v8 wr)
  case atStart =>
    have hz := BE.out.size
    have hea := at_lt TW.out.a.blk
    have heb := at_lt TW.out.b.blk
    have hec := CE.out.lt
    refine ⟨0, .slice none 0 0, .slice none 0 0, .slice none 0 0, .slice none 0 0, ⟨0, 0, 0, 0, 0, false, ha⟩, ⟨0, 0, 0, 0, 0, false, hb⟩, [], [], rfl, by omega, rfl, ⟨⟨by simp, by simp, by simp, by simp, by simp, by simp, by simp, by simp⟩, ⟨by simp, by simp, by simp, by simp, by simp, by simp, by simp, by simp⟩, by simp⟩, ?_, ?_⟩
    · have t3 := (((TW.out.alloc (.cells #[.slice none 0 0, .slice none 0 0] 30)).alloc (.cells #[.int .i64 0, .int .i64 0] 31)).alloc (.cells #[.int .i64 0, .int .i64 0] 31))
      subst hW0
      refine ⟨⟨⟨t3.a.blk, .inl ⟨rfl, rfl⟩⟩, ⟨t3.b.blk, .inl ⟨rfl, rfl⟩⟩, t3.sep, t3.ne, by omega, by omega, by simp⟩, ⟨rfl, .inl ⟨rfl, rfl⟩⟩, ⟨rfl, .inl ⟨rfl, rfl⟩⟩, fun k hk => by simp [Value.ownBlock] at hk, fun k hk => by simp [Value.ownBlock] at hk, ?_, ?_, ?_, ?_, by omega, by omega, by omega, by omega⟩
      · exact ((CE.out.upd ((Upd.refl (fun _ => False) _).alloc _) (fun h => h)).upd ((Upd.refl (fun _ => False) _).alloc _) (fun h => h)).upd ((Upd.refl (fun _ => False) _).alloc _) (fun h => h)
      · exact ⟨_, 30, at_alloc (at_alloc (heap_alloc_new _ _) _) _, rfl, rfl⟩
      · refine ⟨#[.int .i64 0, .int .i64 0], 31, ?_, rfl, rfl⟩
        have := heap_alloc_new (wc.alloc (.cells #[.slice none 0 0, .slice none 0 0] 30)) (.cells #[.int .i64 0, .int .i64 0] 31)
        simp only [World.size_alloc] at this
        exact at_alloc this _
      · refine ⟨#[.int .i64 0, .int .i64 0], 31, ?_, rfl, rfl⟩
        have := heap_alloc_new ((wc.alloc (.cells #[.slice none 0 0, .slice none 0 0] 30)).alloc (.cells #[.int .i64 0, .int .i64 0] 31)) (.cells #[.int .i64 0, .int .i64 0] 31)
        simp only [World.size_alloc] at this
        exact this
    · exact ((BE.out.alloc hz _).alloc (by simp; omega) _).alloc (by simp; omega) _
  case round =>
    obtain ⟨i, v0, v1, w0', w1', a0, a1, p0, p1, hkq, hi, rfl, os, ord, bel⟩ := hrel
    have hEB := CE.out.lt
    clear CE BE TW
    obtain ⟨lo, hlo⟩ : ∃ lo, W0 + 1 + 1 + 1 = lo := ⟨_, rfl⟩
    have BACK : ∀ (v0 v1 w0 w1 : Value) (a0 a1 : Sd) (p0 p1 : List Pk) (w' : World), i < 400 → OS (i + 1) a0 a1 p0 p1 → Ord w' lo 0 1 EB W0 (W0 + 1) (W0 + 1 + 1) La Lb v0 v1 w0 w1 a0.ls a1.ls p0 p1 (a0.s + a0.n) (a1.s + a1.n) a0.g a1.g → Below w.heap.size w w' →
        OrdRel w lo EB W0 (W0 + 1) (W0 + 1 + 1) La Lb (400 - (i + 1)) (.int .i64 ((i + 1 : Nat) : Int)) w' :=
      fun v0 v1 w0 w1 a0 a1 p0 p1 w' h1 h2 h3 h4 => ⟨i + 1, v0, v1, w0, w1, a0, a1, p0, p1, rfl, by omega, rfl, h2, h3, h4⟩
    have BK := Lib.hid BACK
    clear BACK
    rw [hlo] at ord
    have OD := Lib.hid ord
    have BE := Lib.hid bel
    have OZ := Lib.hid os
    clear ord bel os
    by_cases hiT : i < T
    · by_cases hi4 : i < 400
      · have hiT' : (i : Int) < T := by omega
        have hi4' : (i : Int) < 400 := by omega
        obtain rfl := HXA.out (by omega)
        obtain ⟨⟨kk, ee, jj⟩, hf⟩ : ∃ z, f i = z := ⟨_, rfl⟩
        have hy := HY.out i hiT
        rw [hf] at hy
        obtain ⟨y0, y1, y2⟩ := hy
        have hxw := World.block_lt_of_cell? _ _ y0
        have c0 : wr.cell? ⟨xb, xo + i * 3, none⟩ = some (.int .i64 kk) := ((bcell BE.out).1 xb _ hxw).trans y0
        have c1 : wr.cell? ⟨xb, xo + i * 3 + 1, none⟩ = some (.int .i64 ee) := ((bcell BE.out).1 xb _ hxw).trans y1
        have c2 : wr.cell? ⟨xb, xo + i * 3 + 2, none⟩ = some (.int .i64 jj) := ((bcell BE.out).1 xb _ hxw).trans y2
        have HF := Lib.hid hf
        clear y0 y1 y2 hf
        go_upto_region 9 with fail
        go_cut [9] from 24 to 189 (fun v9 wx => ∃ x : Nat, v9 = .int .i64 x ∧ x < 2 ∧ wr = wx)
        case first =>
          go_wp2_with fail
          go_meet
          obtain ⟨x, hx1, hx2⟩ := and_one ee
          exact ⟨x, by rw [hx1], hx2, rfl⟩
        case rest =>
          obtain ⟨x, rfl, hx2, rfl⟩ := hcut
          have key : ∃ (y Lx Ly : Nat) (vx vy wx wy : Value) (ax ay : Sd) (px py : List Pk), x + y = 1 ∧ w.heap.size ≤ Lx ∧ OS i ax ay px py ∧ Ord wr lo x y EB W0 (W0 + 1) (W0 + 1 + 1) Lx Ly vx vy wx wy ax.ls ay.ls px py (ax.s + ax.n) (ay.s + ay.n) ax.g ay.g ∧
              (∀ (vx vy wx wy : Value) (ax ay : Sd) (px py : List Pk) (w' : World), OS (i + 1) ax ay px py → Ord w' lo x y EB W0 (W0 + 1) (W0 + 1 + 1) Lx Ly vx vy wx wy ax.ls ay.ls px py (ax.s + ax.n) (ay.s + ay.n) ax.g ay.g → Below w.heap.size w w' →
                OrdRel w lo EB W0 (W0 + 1) (W0 + 1 + 1) La Lb (400 - (i + 1)) (.int .i64 ((i + 1 : Nat) : Int)) w') := by
            rcases (by omega : x = 0 ∨ x = 1) with rfl | rfl
            · exact ⟨1, La, Lb, _, _, _, _, _, _, _, _, rfl, hla, OZ.out, OD.out, fun _ _ _ _ _ _ _ _ _ h1 h2 h3 => BK.out _ _ _ _ _ _ _ _ _ hi4 h1 h2 h3⟩
            · exact ⟨0, Lb, La, _, _, _, _, _, _, _, _, rfl, hlb, OZ.out.swap, OD.out.swap, fun _ _ _ _ _ _ _ _ _ h1 h2 h3 => BK.out _ _ _ _ _ _ _ _ _ hi4 h1.swap h2.swap h3⟩
          obtain ⟨y, Lx, Ly, vx, vy, wx, wy, ax, ay, px, py, hxy, hlx, os, od, back⟩ := key
          have OZ1 := Lib.hid os
          have OD1 := Lib.hid od
          have BACK := Lib.hid back
          clear os od back OZ OD BK
          have hxi : (x : Int) < 2 := by omega
          have hy : IntKind.i64.wrap (1 - (x : Int)) = y := by rw [IntWalk.i64_in _ (by omega)]; omega
          have hyi : (y : Int) < 2 := by omega
          go_upto_block 2 with fail
          go_cut [10, 11, 12, 13, 14, 15] from 24 to 189 (fun _ _ _ _ _ _ wx' => ∃ (vx vy wx wy : Value) (ax ay : Sd) (px py : List Pk), OS (i + 1) ax ay px py ∧ Ord wx' lo x y EB W0 (W0 + 1) (W0 + 1 + 1) Lx Ly vx vy wx wy ax.ls ay.ls px py (ax.s + ax.n) (ay.s + ay.n) ax.g ay.g ∧ Below w.heap.size w wx')
          case first =>
            by_cases k1 : kk = 1
            · subst k1
              go_upto_region 12 with fail
              refine ord_send OD1 BE hlx hxi (Lib.hid ?_)
              intros
              rename_i wc hcut
              obtain ⟨ok, vx', rfl, od2, bel2⟩ := hcut
              have OD2 := Lib.hid od2
              have BE2 := Lib.hid bel2
              clear od2 bel2 c0 c1 c2
              cases ok
              · go_wp2_with fail
                go_meet
                exact ⟨_, _, _, _, ax, ay, px, py, OZ1.out.next, OD2.out, BE2.out⟩
              · have t0 := OD2.out.cs.fst
                have tf := OD2.out.cs.free
                have hb := OZ1.out.ab.si
                have hb0 := OZ1.out.ab.s0
                have hw : IntKind.i64.wrap (ax.s + (ax.n : Int) + 1) = ax.s + ((ax.n + 1 : Nat) : Int) := by rw [IntWalk.i64_in _ (by omega)]; omega
                clear hb hb0
                go_wp2_with fail
                go_meet
                exact ⟨_, _, _, _, { ax with n := ax.n + 1 }, ay, px, py, OZ1.out.push, OD2.out.setS _, BE2.out.setCell (Nat.le_succ_of_le hww) _⟩
            · have kb1 : (kk == 1) = false := by simp [k1]
              by_cases k2 : kk = 2
              · subst k2
                go_upto_region 15 with fail
                refine ord_poll OD1 OZ1 hi4 BE hlx hxi (Lib.hid ?_)
                intros
                rename_i wc hcut
                obtain ⟨P, ok, p, vx', ax', rfl, rfl, os2, ln2, pk2, od2, bel2⟩ := hcut
                have OD2 := Lib.hid od2
                have BE2 := Lib.hid bel2
                have OZ2 := Lib.hid os2
                cases ok
                · clear od2 bel2 os2 pk2 c0 c1 c2
                  go_wp2_with fail
                  go_meet
                  exact ⟨_, _, _, _, ax', ay, px, py, OZ2.out, OD2.out, BE2.out⟩
                · obtain ⟨pok, hlP, hP⟩ := pk2 rfl
                  have POK := Lib.hid pok
                  have HP := Lib.hid hP
                  clear od2 bel2 os2 pk2 pok hP c0 c1 c2
                  go_upto_region 17 with fail
                  refine ord_app OD2 HP (by omega) hyi hy (Lib.hid ?_)
                  intros
                  rename_i wc2 hcut
                  obtain ⟨wy', od3, u3⟩ := hcut
                  have OD3 := Lib.hid od3
                  have BE3 := Lib.hid (BE2.out.trans (u3.below BE2.out.size (fun k hk => by
                    rcases hk with rfl | hk
                    · exact hww
                    · have := (ownsRow_lt OD2.out.rb k hk.symm).1; omega)))
                  clear od3 u3
                  go_wp2_with fail
                  go_meet
                  exact ⟨_, _, _, _, ax', ay, px, py ++ [p], OZ2.out.sent ln2 POK.out, OD3.out, BE3.out⟩
              · have kb2 : (kk == 2) = false := by simp [k2]
                by_cases k345 : kk = 3 ∨ kk = 4 ∨ kk = 5
                · go_upto_if 81 with fail
                  go_cut [81] from 24 to 189 (fun v81 wx' => v81 = .bool true ∧ wr = wx')
                  case first =>
                    rcases k345 with rfl | rfl | rfl
                    · go_wp2_with fail
                      go_meet
                      exact ⟨rfl, rfl⟩
                    · go_wp2_with fail
                      go_meet
                      exact ⟨rfl, rfl⟩
                    · go_wp2_with fail
                      go_meet
                      exact ⟨rfl, rfl⟩
                  case rest =>
                    obtain ⟨rfl, rfl⟩ := hcut
                    have t0 := OD1.out.cw.fst
                    by_cases hpx : px = []
                    · obtain ⟨ad, cap, hwx⟩ : ∃ ad cap, wx = .slice ad 0 cap := by
                        rcases OD1.out.ra.2 with ⟨h, _⟩ | ⟨g, cap, cur, h, _⟩
                        · exact ⟨_, _, h⟩
                        · rw [hpx] at h; exact ⟨_, _, h⟩
                      rw [hwx] at t0
                      have HWX := Lib.hid hwx
                      have HPX := Lib.hid hpx
                      have hwi : IntKind.i64.wrap ((i : Int) + 1) = ((i + 1 : Nat) : Int) := by rw [IntWalk.i64_in _ (by omega)]; omega
                      clear hwx hpx
                      go_wp2_with fail
                      go_roundg (400 - (i + 1))
                      case measure => omega
                      case rel =>
                        rw [hlo]
                        exact BACK.out _ _ _ _ ax ay px py wr OZ1.out.next OD1.out BE.out
                    · have hn : 0 < px.length := List.length_pos_iff.2 hpx
                      have hn4 : px.length ≤ 400 := by have := OZ1.out.len; omega
                      obtain ⟨g, cap, hwx, hgl, hgw⟩ := OD1.out.ra.form hn
                      rw [hwx] at t0
                      have HWX := Lib.hid hwx
                      obtain ⟨n, hnn⟩ : ∃ n, px.length = n := ⟨_, rfl⟩
                      rw [hnn] at t0 hn hn4 HWX
                      have HN := Lib.hid hnn
                      clear hwx hpx hnn
                      have hnb : ((n : Int) == 0) = false := by simp; omega
                      go_upto_region 22 with fail
                      refine ord_which OD1 HWX hn hn4 c2 hiT' hxi (Lib.hid ?_)
                      intros
                      rename_i u12 nq hcut
                      obtain ⟨k, rfl, hkn⟩ := hcut
                      have OD2 := Lib.hid (OD1.out.drewN nq)
                      have c02 : (wr.drewN nq).cell? ⟨xb, xo + i * 3, none⟩ = some (.int .i64 kk) := c0
                      have BE2 : Hid (Below w.heap.size w (wr.drewN nq)) := Lib.hid (BE.out.trans ⟨rfl, rfl, rfl, Nat.le_refl _, fun _ _ => rfl⟩)
                      generalize wr.drewN nq = wd at *
                      clear c0 c1 c2 t0 OD1 BE
                      obtain ⟨p, hp⟩ : ∃ p, px[k]? = some p := ⟨px[k]'(by have := HN.out; omega), List.getElem?_eq_getElem _⟩
                      have HP := Lib.hid hp
                      have PM := Lib.hid (List.mem_of_getElem? hp)
                      clear hp
                      go_upto_region 23 with fail
                      refine ord_take OD2 HWX HN hkn HP hxi (Lib.hid ?_)
                      intros
                      rename_i u13 wp hcut
                      obtain ⟨P, rfl, hlP, hP, od3, u3⟩ := hcut
                      have OD3 := Lib.hid od3
                      have BE3 := Lib.hid (BE2.out.trans (u3.below BE2.out.size (fun _ h => h.elim)))
                      have c0 : wp.cell? ⟨xb, xo + i * 3, none⟩ = some (.int .i64 kk) := by
                        have hb := World.block_lt_of_cell? _ _ c02
                        rw [← c02]
                        unfold World.cell?
                        rw [u3.block _ hb (fun h => h)]
                      have HPP := Lib.hid hP
                      clear od3 u3 hP OD2 BE2 c02
                      go_upto_if 114 with fail
                      go_cut [] from 24 to 189 (fun wx' => ∃ (wx : Value) (px' : List Pk), (∀ q ∈ px', q ∈ px) ∧ px'.length ≤ px.length ∧ wx'.heap[P]? = some (.cells p.cells.toArray 38 (0, 0)) ∧
                        Ord wx' lo x y EB W0 (W0 + 1) (W0 + 1 + 1) Lx Ly vx vy wx wy ax.ls ay.ls px' py (ax.s + ax.n) (ay.s + ay.n) ax.g ay.g ∧ Below w.heap.size w wx' ∧ wx'.cell? ⟨xb, xo + i * 3, none⟩ = some (.int .i64 kk))
                      case first =>
                        by_cases k5 : kk = 5
                        · subst k5
                          go_wp2_with fail
                          go_meet
                          exact ⟨wx, px, fun _ h => h, Nat.le_refl _, HPP.out, OD3.out, BE3.out, c0⟩
                        · have kb5 : (kk != 5) = true := by simp [k5]
                          go_upto_region 25 with fail
                          refine ord_rm OD3 HWX HN hn4 hkn hxi (Lib.hid ?_)
                          intros
                          rename_i wr2 hcut
                          obtain ⟨wx2, px2, hq1, hq2, od4, u4⟩ := hcut
                          go_wp2_with fail
                          go_meet
                          refine ⟨wx2, px2, hq1, hq2, at_upd u4 HPP.out (by omega), od4, BE3.out.trans (u4.below BE3.out.size (fun k hk => by omega)), ?_⟩
                          have hb := World.block_lt_of_cell? _ _ c0
                          rw [← c0]
                          unfold World.cell?
                          rw [u4.block _ hb (by have := hxw; simp; omega)]
                      case rest =>
                        obtain ⟨wx2, px2, hq1, hq2, hP2, od4, bel4, c04⟩ := hcut
                        have OD4 := Lib.hid od4
                        have BE4 := Lib.hid bel4
                        have HP4 := Lib.hid hP2
                        clear od4 bel4 hP2 OD3 BE3 c0 HPP
                        have hpk := OZ1.out.ba.pok p PM.out
                        have POK := Lib.hid hpk
                        have OZ4 : Hid (OS i ax ay px2 py) := Lib.hid ⟨OZ1.out.ab, OZ1.out.ba.less hq1, by have := OZ1.out.len; omega⟩
                        clear hpk OZ1
                        by_cases k4 : kk = 4
                        · subst k4
                          have hwi : IntKind.i64.wrap ((i : Int) + 1) = ((i + 1 : Nat) : Int) := by rw [IntWalk.i64_in _ (by omega)]; omega
                          go_wp2_with fail
                          go_roundg (400 - (i + 1))
                          case measure => omega
                          case rel =>
                            rw [hlo]
                            exact BACK.out _ _ _ _ ax ay px2 py wc OZ4.out.next OD4.out BE4.out
                        · have kb4 : (kk == 4) = false := by simp [k4]
                          go_upto_region 27 with fail
                          obtain ⟨ax', m, ok, hr, h1, h2, h3, h4, h5, h6, h7, h8⟩ := ls_recv OZ4.out.ab OZ4.out.ba (by omega) POK.out i
                          obtain ⟨s1, s2, s3⟩ := recv_sides OZ4.out.ab OZ4.out.ba h1 h2 h3 h4 h5 h6 h7 (fun h => ⟨(h8 h).1, (h8 h).2.2.1, (h8 h).2.2.2⟩)
                          have OZ5 : Hid (OS i ax' ay px2 py) := Lib.hid ⟨s1, s2, OZ4.out.len⟩
                          have HR := Lib.hid hr
                          have H2 := Lib.hid h2
                          have H7 := Lib.hid h7
                          have H8 := Lib.hid h8
                          clear hr h1 h2 h3 h4 h5 h6 h7 h8 s1 s2 s3 c04
                          refine ord_recv OD4 HP4 hlP (Lib.hid ⟨POK.out.s, POK.out.e⟩) HR hxi (Lib.hid ?_)
                          intros
                          rename_i u14 u15 wv hcut
                          obtain ⟨M, vx5, rfl, rfl, hM, od5, u5⟩ := hcut
                          have OD5 := Lib.hid od5
                          have BE5 := Lib.hid (BE4.out.trans (u5.below BE4.out.size (fun k hk => by omega)))
                          have HM := Lib.hid hM
                          clear od5 u5 hM
                          cases ok
                          · have H7F := Lib.hid (H7.out rfl)
                            clear H7 H8
                            go_wp2_with fail
                            go_meet
                            refine ⟨vx5, vy, wx2, wy, ax', ay, px2, py, OZ5.out.next, ?_, BE5.out⟩
                            rw [H2.out, H7F.out]
                            exact OD5.out
                          · obtain ⟨e1, rfl, e3, e4⟩ := H8.out rfl
                            have E1 := Lib.hid e1
                            clear e1
                            go_upto_if 146 with fail
                            refine ord_got OD5 HM (by have := OZ4.out.ba.g0; have := OZ4.out.ba.s0; omega) (by have := OZ4.out.ba.si; omega) e4 hxi hyi (Lib.hid hy) (Lib.hid ?_)
                            intros
                            rename_i wv2 hcut
                            obtain ⟨od6, u6⟩ := hcut
                            have OD6 := Lib.hid od6
                            have BE6 := Lib.hid (BE5.out.trans (u6.below BE5.out.size (fun k hk => by omega)))
                            clear od6 u6
                            go_wp2_with fail
                            go_meet
                            refine ⟨vx5, vy, wx2, wy, ax', ay, px2, py, OZ5.out.next, ?_, BE6.out⟩
                            rw [H2.out, E1.out]
                            exact OD6.out
                · have kb3 : (kk == 3) = false := by simp; omega
                  have kb4 : (kk == 4) = false := by simp; omega
                  have kb5 : (kk == 5) = false := by simp; omega
                  clear c1 c2
                  go_wp2_with fail
                  go_meet
                  exact ⟨_, _, _, _, ax, ay, px, py, OZ1.out.next, OD1.out, BE.out⟩
          case rest =>
            obtain ⟨vx, vy, wx, wy, ax, ay, px, py, os, od, bel⟩ := hcut
            have OD2 := Lib.hid od
            have BE2 := Lib.hid bel
            have OZ2 := Lib.hid os
            clear od bel os OD1 OZ1 BE c0 c1 c2
            go_upto_region 32 with fail
            refine ord_look (n := ax.n) OD2 (Lib.hid (qO_length _ _)) (by have := OZ2.out.ab.g2; omega) (by have := OZ2.out.ab.g0; omega) (by have := OZ2.out.ab.g0; have := OZ2.out.ab.s0; omega) (by have := OZ2.out.ab.si; omega) hxi hyi (Lib.hid hy) (Lib.hid ?_)
            intros
            rename_i nq
            have OD3 := Lib.hid (OD2.out.drewN nq)
            have BE3 : Hid (Below w.heap.size w (wc.drewN nq)) := Lib.hid (BE2.out.trans ⟨rfl, rfl, rfl, Nat.le_refl _, fun _ _ => rfl⟩)
            generalize wc.drewN nq = wd at *
            have hwi : IntKind.i64.wrap ((i : Int) + 1) = ((i + 1 : Nat) : Int) := by rw [IntWalk.i64_in _ (by omega)]; omega
            go_wp2_with fail
            go_roundg (400 - (i + 1))
            case measure => omega
            case rel =>
              rw [hlo]
              exact BACK.out _ _ _ _ ax ay px py wd OZ2.out OD3.out BE3.out
      · have hi4' : ¬ (i : Int) < 400 := by omega
        go_wp2_with (go_at_call 12; refine (answers_any _).mono ?_; rintro e w' ⟨rfl, bb⟩)
        go_ret
        exact ⟨rfl, BE.out.trans (bb.mono BE.out.size)⟩
    · have hiT' : ¬ (i : Int) < T := by omega
      go_wp2_with (go_at_call 12; refine (answers_any _).mono ?_; rintro e w' ⟨rfl, bb⟩)
      go_ret
      exact ⟨rfl, BE.out.trans (bb.mono BE.out.size)⟩
end Go.Proofs.Ytbbacdaenpildaa.X

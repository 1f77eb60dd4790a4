/- LinkAll answers true: the walk. -/
import Derived.Test.YtbbacdaenpildaaXAllLaw
import Derived.Deep.LoopGhost
import Derived.Deep.DeepCutAuto
namespace Go.Proofs.Ytbbacdaenpildaa.X
open Go.RowKit Go.Proofs.Ytbbacdaenpildaa.XTick
set_option linter.unusedSimpArgs false

set_option maxHeartbeats 4000000 in
set_option maxRecDepth 100000 in
set_option linter.unusedVariables false in
theorem linkAll_true (w : World) (xa : Option Addr) (xb xo T xl : Nat) (f : Nat → Bool) (hT : T ≤ 140737488355328) (hxa : 0 < T → xa = some ⟨xb, xo, none⟩) (hy : ∀ j, j < T → w.cell? ⟨xb, xo + j, none⟩ = some (.bool (f j))) (n : Nat) (hn : n < 256) :
    Calls Try.prog 4 #[.slice xa T xl, .int .u8 n] w fun e w' => e = .returned (.bool true) ∧ Below w.heap.size w w' := by
  have hz18 : (#[Value.int .i64 0, .int .i64 0, .int .i64 0, .int .i64 0, .int .i64 0, .int .i64 0, .int .i64 0, .int .i64 0, .int .i64 0, .int .i64 0, .int .i64 0, .int .i64 0, .int .i64 0, .int .i64 0, .int .i64 0, .int .i64 0, .int .i64 0, .int .i64 0]).size = 18 := rfl
  go_enter Try.func4, Try.ntmps4
  go_wp2_with fail
  refine (config_any _).mono ?_
  rintro e0 w0 ⟨rfl, h0⟩
  go_upto_region 3 with (with_reducible refine wpList_store24 rfl (.tmp 5) (.tmp 17) rfl rfl rfl _ hz18 ?_; intro w1 hc1 hb1; have c15 := at_cell hc1 (o := 15) rfl; have c16 := at_cell hc1 (o := 16) rfl; have fC := at_free hc1; have HC1 := Lib.hid hc1; clear hc1)
  obtain ⟨C, hC⟩ : ∃ C, w0.heap.size = C := ⟨_, rfl⟩
  obtain ⟨w2, hw2⟩ : ∃ w2, (w1.setCell ⟨w0.heap.size, 15, none⟩ (.int .i64 1073741824)).setCell ⟨w0.heap.size, 16, none⟩ (.int .i64 1073741824) = w2 := ⟨_, rfl⟩
  have hc2 : w2.heap[C]? = some (.cells cfg2.toArray 24 (0, 0)) := by rw [← hw2, ← hC]; exact at_same (at_same HC1.out _) _
  have hb2 : Below w.heap.size w w2 := by
    rw [← hw2]; exact ((h0.trans (hb1.mono h0.size)).setCell h0.size _).setCell h0.size _
  rw [hw2, hC]
  have HC2 := Lib.hid hc2
  have HB2 := Lib.hid hb2
  clear hw2 hc2 hb2 HC1 hb1 h0 c15 c16 fC hz18 hC
  go_cut [6, 7] (fun s6 s7 wc => ∃ La Lb ha hb, s6 = .pointer (some ⟨La, 0, none⟩) ∧ s7 = .pointer (some ⟨Lb, 0, none⟩) ∧ w.heap.size ≤ La ∧ w.heap.size ≤ Lb ∧ Below w.heap.size w wc ∧
    Two wc wc.heap.size La Lb (.slice none 0 0) (.slice none 0 0) ⟨1073741824, 1073741824, 0, 1, [], 0, 0, 0, 0, false, ha⟩ ⟨1073741824, 1073741824, 0, 1, [], 0, 0, 0, 0, false, hb⟩)
  case first =>
    refine wp_region_held_drew (S := fun w' => w'.rangeAt C 0 cfg2) (by kernel_rfl) (range_of (at_drew HC2.out)) (fun hHeld => ?_)
    refine' wpAnyH_take (i := 0) (v := _) rfl (by kernel_rfl) (by kernel_rfl) (by kernel_rfl) (fun _ _ _ h => h) (yieldsIf_load_mid (by rfl) 24 (.tmp 5) rfl C 0 rfl cfg2 _ (fun w h => h) Try.underlying24 rfl (by kernel_rfl)) hHeld ?_
    try simp only [Act.put, List.setIfInBounds_toArray, List.set_cons_zero, List.set_cons_succ]
    refine' wpAnyH_take (i := 2) (v := _) rfl (by kernel_rfl) (by kernel_rfl) (by kernel_rfl) (fun _ _ _ h => h) (yieldsIf_load_mid (by rfl) 24 (.tmp 5) rfl C 0 rfl cfg2 _ (fun w h => h) Try.underlying24 rfl (by kernel_rfl)) hHeld ?_
    try simp only [Act.put, List.setIfInBounds_toArray, List.set_cons_zero, List.set_cons_succ]
    refine wpAnyH_ready (rs := [1]) (by kernel_rfl) (by simp) ?_
    refine AllReadyH.cons rfl (fun K hK => ?_) AllReadyH.nil
    go_simp
    refine (new_any _ 1073741824 1073741824 0 1 0 (by omega)).mono ?_
    intro e3 w3 n3
    have n3' := n3
    obtain ⟨La, rfl, _, _, nb3⟩ := n3'
    have hc3 : w3.heap[C]? = some (.cells cfg2.toArray 24 (0, 0)) := (nb3.block C (at_lt HC2.out)).trans HC2.out
    have N3 := Lib.hid n3
    have HC3 := Lib.hid hc3
    clear n3 hc3 nb3
    refine hK.out _ _ (range_of HC3.out) (fun hHeld => ?_)
    clear hK K
    try simp only [Act.put, List.setIfInBounds_toArray, List.set_cons_zero, List.set_cons_succ]
    refine wpAnyH_ready (rs := [3]) (by kernel_rfl) (by simp) ?_
    refine AllReadyH.cons rfl (fun K hK => ?_) AllReadyH.nil
    go_simp
    refine (new_any _ 1073741824 1073741824 0 1 0 (by omega)).mono ?_
    intro e4 w4 n4
    have n4' := n4
    obtain ⟨Lb, rfl, _, _, nb4⟩ := n4'
    have hc4 : w4.heap[C]? = some (.cells cfg2.toArray 24 (0, 0)) := (nb4.block C (at_lt HC3.out)).trans HC3.out
    have N4 := Lib.hid n4
    have HC4 := Lib.hid hc4
    clear n4 hc4 nb4
    refine hK.out _ _ (range_of HC4.out) (fun hHeld => ?_)
    clear hK K
    try simp only [Act.put, List.setIfInBounds_toArray, List.set_cons_zero, List.set_cons_succ]
    refine wpAnyH_ready (rs := [4]) (by kernel_rfl) (by simp) ?_
    refine AllReadyH.cons rfl (fun K hK => ?_) AllReadyH.nil
    go_simp
    refine hK.out _ _ (range_of HC4.out) (fun hHeld => ?_)
    clear hK K
    try simp only [Act.put, List.setIfInBounds_toArray, List.set_cons_zero, List.set_cons_succ]
    refine wpAnyH_ready (rs := [5]) (by kernel_rfl) (by simp) ?_
    refine AllReadyH.cons rfl (fun K hK => ?_) AllReadyH.nil
    go_simp
    refine hK.out _ _ (range_of HC4.out) (fun hHeld => ?_)
    clear hK K
    refine wpAnyH_done (by kernel_rfl) ?_ _
    go_wp2_with fail
    go_meet
    obtain ⟨La', Lb', ea, eb, hla, hlb, hb, two⟩ := two_new (W := w) (W1 := w2.drew) (W2 := w3) (W3 := w3) HB2.out.drew N3.out (Below.refl _ _) N4.out
    have ea' : La' = La := by simpa using ea.symm
    have eb' : Lb' = Lb := by simpa using eb.symm
    subst ea' eb'
    exact ⟨La', Lb', _, _, rfl, rfl, hla, hlb, hb, two⟩
  case rest =>
    obtain ⟨La, Lb, ha, hb, rfl, rfl, hla, hlb, hbw, two⟩ := hcut
    have Two0 := Lib.hid two
    have Bw0 := Lib.hid hbw
    have HY := Lib.hid hy
    have HXA := Lib.hid hxa
    clear two hbw HC2 HB2 hy hxa
    go_wp2_with fail
    obtain ⟨k, hk, hk12⟩ : ∃ k : Nat, (n : Int) % 12 = (k : Int) ∧ k < 12 := ⟨n % 12, by omega, by omega⟩
    rw [hk]
    clear hk
    obtain ⟨N, hN⟩ : ∃ N : Nat, 60 + 20 * k + T = N := ⟨_, rfl⟩
    obtain ⟨lo, hlo⟩ : ∃ lo : Nat, wc.heap.size = lo := ⟨_, rfl⟩
    rw [hlo] at Two0
    clear hlo
    go_loopg [8, 9, 11] N (fun kq v8 v9 v11 wr => AllRel w lo La Lb T k N kq v8 v9 v11 wr)
    case atStart =>
      refine ⟨0, 0, 0, 0, 0, 0, ha, hb, _, _, rfl, by omega, rfl, rfl, rfl, ?_, Two0.out, Bw0.out⟩
      constructor <;> omega
    case round =>
      obtain ⟨i, s, m, got, cnt, due, ha, hb, va, vb, hkq, hiN, rfl, rfl, rfl, inv, two, bel⟩ := hrel
      have TW := Lib.hid two
      have BE := Lib.hid bel
      have I := inv
      clear two bel Two0 Bw0
      obtain ⟨s0, sk, n4, g0, g1, g2, c0, c1, d0, d1, e0, run⟩ := I
      have RUN := Lib.hid run
      have E0 := Lib.hid e0
      clear run e0
      have HN := Lib.hid hN
      by_cases hlt : i < N
      · by_cases h200 : 200 < T
        · have h200' : (200 : Int) < T := by omega
          have hlt' : (i : Int) < 60 + 20 * k + T := by omega
          go_wp2_with (go_at_call 12; refine (answers_any _).mono ?_; rintro e w' ⟨rfl, bb⟩)
          go_ret
          exact ⟨rfl, BE.out.trans (bb.mono BE.out.size)⟩
        · have h200' : ¬ (200 : Int) < T := by omega
          have hlt' : (i : Int) < 60 + 20 * k + T := by omega
          have hi480 : i < 1000 := by omega
          go_upto_region 11 with fail
          go_cut [49] from 27 to 113 (fun v49 wx => ∃ (b : Bool) (va' : Value), v49 = .bool b ∧ s + m + (if b then 1 else 0) ≤ k ∧ m + (if b then 1 else 0) ≤ 4 ∧ (b = false → s + m = k ∨ m = 4) ∧
            Two wx lo La Lb va' vb (stA s (m + (if b then 1 else 0)) cnt due ha) (stB got false hb) ∧ Below w.heap.size w wx)
          case first =>
            by_cases hsk : s + (m : Int) < k
            · by_cases hm4 : m < 4
              · have CS := Lib.hid (two_send TW.out ⟨2, s + m, 0, 0⟩ (by simp only [stA, qOf_length]; exact hm4))
                go_wp2_with (go_at_call 8; refine CS.out.mono ?_; rintro e w' ⟨rfl, va', t', u', o'⟩; have t' := Lib.hid t'; have b' := Lib.hid (TW.out.below_send BE.out hla u'); clear u' o')
                go_meet
                rw [stA_push] at t'
                exact ⟨true, va', rfl, by simp; omega, by simp; omega, by simp, t'.out, b'.out⟩
              · have CS := Lib.hid (send_full wr La lo va _ ⟨2, s + m, 0, 0⟩ TW.out.a (by simp only [stA, qOf_length]; omega))
                go_wp2_with (go_at_call 8; refine CS.out.mono ?_; rintro e w' ⟨rfl, u'⟩; have t' := Lib.hid (TW.out.upd u' (fun h => h) (fun h => h) (fun _ _ h => h) (fun _ _ h => h)); have b' := Lib.hid (BE.out.trans (u'.below BE.out.size (fun _ h => h.elim))); clear u')
                go_meet
                exact ⟨false, va, rfl, by simpa using sk, by simpa using n4, fun _ => .inr (by omega), t'.out, b'.out⟩
            · have hsk' := Lib.hid (show s + (m : Int) = k by omega)
              go_wp2_with fail
              go_meet
              exact ⟨false, va, rfl, by simpa using sk, by simpa using n4, fun _ => .inl hsk'.out, TW.out, BE.out⟩
          case rest =>
            obtain ⟨b, va1, rfl, sk1, n41, full1, two1, bel1⟩ := hcut
            have TW1 := Lib.hid two1
            have BE1 := Lib.hid bel1
            clear two1 bel1 TW BE
            obtain ⟨m1, hm1⟩ : ∃ m1 : Nat, m + (if b then 1 else 0) = m1 := ⟨_, rfl⟩
            have hge : m1 = 0 → s = k := fun h => by
              cases b
              · simp at hm1; rcases full1 rfl with h | h <;> omega
              · simp at hm1; omega
            have sk1' : s + (m1 : Int) ≤ k := by
              rw [← hm1]; cases b <;> simp at sk1 ⊢ <;> omega
            rw [hm1] at TW1 n41
            go_upto_if 49 with fail
            go_cut [8] from 27 to 113 (fun v8 wx => v8 = .int .i64 (s + m1) ∧ wc = wx)
            case first =>
              cases b
              · go_wp2_with fail
                go_meet
                exact ⟨by rw [← hm1]; simp, rfl⟩
              · have hw : IntKind.i64.wrap (s + (m : Int) + 1) = s + m1 := by rw [← hm1, IntWalk.i64_in _ (by omega)]; simp; omega
                go_wp2_with fail
                go_meet
                exact ⟨by first | rfl | (rw [← hm1]; simp; omega), rfl⟩
            case rest =>
              obtain ⟨rfl, rfl⟩ := hcut
              have FULL := Lib.hid hge
              have M1 := Lib.hid (show m ≤ m1 by rw [← hm1]; omega)
              clear hm1 hge full1 sk1 sk n4 b
              go_upto_region 13 with fail
              go_cut [12, 13] from 27 to 113 (fun v12 v13 wx => ∃ (P : Nat) (ok : Bool) (cnt1 due1 : Int) (va2 : Value), v12 = .pointer (some ⟨P, 0, none⟩) ∧ v13 = .bool ok ∧ 0 ≤ cnt1 ∧ cnt1 ≤ i + 1 ∧ 0 ≤ due1 ∧ due1 ≤ i + 9 ∧
                (ok = true → 0 < m1 ∧ lo ≤ P ∧ wx.heap[P]? = some (.cells (Pk.mk 0 1 s 0 true ⟨2, s, 0, 0⟩).cells.toArray 38 (0, 0))) ∧ (ok = false → due1 = due ∧ (m1 = 0 ∨ i < due)) ∧
                Two wx lo La Lb va2 vb (stA s m1 cnt1 due1 ha) (stB got false hb) ∧ Below w.heap.size w wx)
              case first =>
                have CP := Lib.hid (two_poll TW1.out i (by simp only [stA]; omega))
                by_cases hp : 0 < m1 ∧ due ≤ i
                · obtain ⟨hp1, hp2⟩ := hp
                  obtain ⟨m2, hm2⟩ : ∃ m2, m1 = m2 + 1 := ⟨m1 - 1, by omega⟩
                  obtain ⟨due1, q1, q2, q3⟩ := stA_poll_yes s m2 cnt due ha i (by omega) (by omega) hp2
                  rw [← hm2] at q3
                  rw [q3] at CP
                  clear q3 hm2
                  unfold Pk.v at CP
                  go_wp2_with (go_at_call 9; refine CP.out.mono ?_; rintro e w' ⟨rfl, va', o', t', u'⟩; have t' := Lib.hid t'; have b' := Lib.hid (Two.below_at BE1.out hla u'); clear u')
                  go_meet
                  exact ⟨_, true, cnt + 1, due1, _, rfl, rfl, by omega, by omega, q1, q2, fun _ => ⟨hp1, t'.out.lo_le, heap_alloc_new _ _⟩, fun h => (by cases h), t'.out.alloc _, b'.out.alloc b'.out.size _⟩
                · have hq : (stA s m1 cnt due ha).poll i = (stA s m1 cnt due ha, Pk.zero, false) := by
                    by_cases h0 : m1 = 0
                    · rw [h0]; rfl
                    · exact stA_poll_no s m1 cnt due ha i (by omega) (by omega) (by omega) (by omega)
                  rw [hq] at CP
                  clear hq
                  have HP := Lib.hid hp
                  clear hp
                  unfold Pk.v Pk.zero Mg.zero at CP
                  go_wp2_with (go_at_call 9; refine CP.out.mono ?_; rintro e w' ⟨rfl, va', o', t', u'⟩; have t' := Lib.hid t'; have b' := Lib.hid (Two.below_at BE1.out hla u'); clear u')
                  go_meet
                  exact ⟨_, false, cnt, due, _, rfl, rfl, by omega, by omega, by omega, by omega, fun h => (by cases h), fun _ => ⟨rfl, by have := HP.out; omega⟩, t'.out.alloc _, b'.out.alloc b'.out.size _⟩
              case rest =>
                obtain ⟨P, ok, cnt1, due1, va2, rfl, rfl, f0, f1, f2, f3, fy, fn, two2, bel2⟩ := hcut
                have TW2 := Lib.hid two2
                have BE2 := Lib.hid bel2
                have FY := Lib.hid fy
                have FN := Lib.hid fn
                clear two2 bel2 fy fn TW1 BE1
                go_upto_region 14 with fail
                go_cut [71] from 27 to 113 (fun v71 wx => ∃ g : Bool, v71 = .bool g ∧ (g = true → ok = true) ∧ (T ≤ i → g = ok) ∧ wc = wx)
                case first =>
                  cases ok
                  · go_wp2_with fail
                    go_meet
                    exact ⟨false, rfl, by simp, by simp, rfl⟩
                  · by_cases hTi : i < T
                    · have hTi' : ¬ (T : Int) ≤ i := by omega
                      obtain rfl := HXA.out (by omega)
                      have hx := HY.out i hTi
                      have hxw := World.block_lt_of_cell? _ _ hx
                      have hx1 : wc.cell? ⟨xb, xo + i, none⟩ = some (.bool (f i)) := ((bcell BE2.out).1 xb (xo + i) hxw).trans hx
                      have hii : (i : Int) < T := by omega
                      clear hx hxw
                      go_wp2_with fail
                      go_meet
                      exact ⟨!(f i), rfl, by simp, by omega, rfl⟩
                    · have hTi' : (T : Int) ≤ i := by omega
                      go_wp2_with fail
                      go_meet
                      exact ⟨true, rfl, by simp, by simp, rfl⟩
                case rest =>
                  obtain ⟨g, rfl, gy, gn, rfl⟩ := hcut
                  have GN := Lib.hid gn
                  clear gn
                  go_upto_if 71 with fail
                  go_cut [9, 14, 15] from 27 to 113 (fun v9 _ _ wx => ∃ (got2 : Int) (ans : Bool) (hb2 : Int) (vb2 : Value), v9 = .int .i64 got2 ∧ s ≤ got2 ∧ got2 ≤ s + 1 ∧ got2 ≤ s + m1 ∧ (g = true → got2 = s + 1 ∧ ans = true ∧ 0 < m1) ∧ (g = false → ans = false) ∧
                    Two wx lo La Lb va2 vb2 (stA s m1 cnt1 due1 ha) (stB got2 ans hb2) ∧ Below w.heap.size w wx)
                  case first =>
                    cases g
                    · go_wp2_with fail
                      go_meet
                      exact ⟨got, false, hb, vb, rfl, g0, g1, by have := M1.out; omega, by simp, fun _ => rfl, TW2.out, BE2.out⟩
                    · have hok := gy rfl
                      subst hok
                      obtain ⟨hm1, hP1, hP2⟩ := FY.out rfl
                      have HP := Lib.hid hP2
                      clear hP2
                      have cr := two_recv TW2.out.swap ⟨0, 1, s, 0, true, ⟨2, s, 0, 0⟩⟩ rfl rfl i
                      simp only at cr
                      by_cases hgs : got = s
                      · subst hgs
                        obtain ⟨hb2, hr⟩ := stB_recv_new got hb i false ⟨2, got, 0, 0⟩ (by omega) (by omega)
                        rw [hr] at cr
                        have CR := Lib.hid cr
                        clear cr hr
                        unfold Pk.v Mg.v at CR
                        go_wp2_with (first
                          | (with_reducible refine wpList_load_row rfl 38 (.tmp 12) rfl P rfl 38 _ (0, 0) _ HP.out Try.underlying38 rfl (by kernel_rfl) ?_)
                          | (go_at_call 10; refine CR.out.mono ?_; rintro e w' ⟨rfl, vb', o', t', u'⟩; have t' := Lib.hid t'; have b' := Lib.hid (Two.below_at BE2.out hlb u'); clear u'))
                        go_meet
                        exact ⟨got + 1, true, hb2, _, rfl, by omega, by omega, by omega, fun _ => ⟨rfl, rfl, hm1⟩, (fun h => by cases h), t'.out.swap.alloc _, b'.out.alloc b'.out.size _⟩
                      · obtain ⟨hb2, hr⟩ := stB_recv_old got hb i s false ⟨2, s, 0, 0⟩ (by omega) (by omega) (by omega) (by omega)
                        rw [hr] at cr
                        have CR := Lib.hid cr
                        have GS := Lib.hid hgs
                        clear cr hr hgs
                        unfold Pk.v Mg.v Mg.zero at CR
                        go_wp2_with (first
                          | (with_reducible refine wpList_load_row rfl 38 (.tmp 12) rfl P rfl 38 _ (0, 0) _ HP.out Try.underlying38 rfl (by kernel_rfl) ?_)
                          | (go_at_call 10; refine CR.out.mono ?_; rintro e w' ⟨rfl, vb', o', t', u'⟩; have t' := Lib.hid t'; have b' := Lib.hid (Two.below_at BE2.out hlb u'); clear u'))
                        go_meet
                        exact ⟨got, true, hb2, _, rfl, by omega, by omega, by have := M1.out; omega, fun _ => ⟨by have := GS.out; omega, rfl, hm1⟩, (fun h => by cases h), t'.out.swap.alloc _, b'.out.alloc b'.out.size _⟩
                  case rest =>
                    obtain ⟨got2, ans, hb2, vb2, rfl, k0, k1, k2, kg, kn, two3, bel3⟩ := hcut
                    have TW3 := Lib.hid two3
                    have BE3 := Lib.hid bel3
                    have KG := Lib.hid kg
                    have KN := Lib.hid kn
                    have FYM := Lib.hid (fun h => (FY.out h).1)
                    clear two3 bel3 kg kn TW2 BE2 FY
                    go_upto_region 20 with fail
                    go_cut [13, 16] from 27 to 113 (fun v13 v16 wx => ∃ (P : Nat) (vb3 : Value), v13 = .bool ans ∧ v16 = .pointer (some ⟨P, 0, none⟩) ∧ 
                      (ans = true → lo ≤ P ∧ wx.heap[P]? = some (.cells (Pk.mk 0 1 0 got2 false ⟨0, 0, 0, 0⟩).cells.toArray 38 (0, 0))) ∧
                      Two wx lo La Lb va2 vb3 (stA s m1 cnt1 due1 ha) (stB got2 false hb2) ∧ Below w.heap.size w wx)
                    case first =>
                      have CP := Lib.hid (two_poll TW3.out.swap i (by simp only [stB]; omega))
                      cases ans
                      · rw [stB_poll_no] at CP
                        unfold Pk.v Pk.zero Mg.zero at CP
                        go_wp2_with (go_at_call 9; refine CP.out.mono ?_; rintro e w' ⟨rfl, vb', o', t', u'⟩; have t' := Lib.hid t'; have b' := Lib.hid (Two.below_at BE3.out hlb u'); clear u')
                        go_meet
                        exact ⟨_, _, rfl, rfl, fun h => (by cases h), t'.out.swap.alloc _, b'.out.alloc b'.out.size _⟩
                      · rw [stB_poll_yes] at CP
                        unfold Pk.v Mg.zero at CP
                        go_wp2_with (go_at_call 9; refine CP.out.mono ?_; rintro e w' ⟨rfl, vb', o', t', u'⟩; have t' := Lib.hid t'; have b' := Lib.hid (Two.below_at BE3.out hlb u'); clear u')
                        go_meet
                        exact ⟨_, _, rfl, rfl, fun _ => ⟨t'.out.lo_le, heap_alloc_new _ _⟩, t'.out.swap.alloc _, b'.out.alloc b'.out.size _⟩
                    case rest =>
                      obtain ⟨P2, vb3, rfl, rfl, fy2, two4, bel4⟩ := hcut
                      have TW4 := Lib.hid two4
                      have BE4 := Lib.hid bel4
                      have FY2 := Lib.hid fy2
                      clear two4 bel4 fy2 TW3 BE3
                      go_upto_region 21 with fail
                      go_cut [109] from 27 to 113 (fun v109 wx => ∃ g2 : Bool, v109 = .bool g2 ∧ (g2 = true → ans = true) ∧ (T ≤ i → g2 = ans) ∧ wc = wx)
                      case first =>
                        cases ans
                        · go_wp2_with fail
                          go_meet
                          exact ⟨false, rfl, by simp, by simp, rfl⟩
                        · by_cases hTi : i < T
                          · have hTi' : ¬ (T : Int) ≤ i := by omega
                            obtain rfl := HXA.out (by omega)
                            obtain ⟨j, hj⟩ : ∃ j : Nat, j + 1 + i = T := ⟨T - 1 - i, by omega⟩
                            have hx := HY.out j (by omega)
                            have hxw := World.block_lt_of_cell? _ _ hx
                            have hx1 : wc.cell? ⟨xb, xo + j, none⟩ = some (.bool (f j)) := ((bcell BE4.out).1 xb (xo + j) hxw).trans hx
                            have e1 : IntKind.i64.wrap ((T : Int) - 1) = (T : Int) - 1 := IntWalk.i64_in _ (by omega)
                            have e2 : IntKind.i64.wrap ((T : Int) - 1 - i) = j := by rw [IntWalk.i64_in _ (by omega)]; omega
                            have hjT : (j : Int) < T := by omega
                            clear hx hxw
                            go_wp2_with fail
                            go_meet
                            exact ⟨!(f j), rfl, by simp, by omega, rfl⟩
                          · have hTi' : (T : Int) ≤ i := by omega
                            go_wp2_with fail
                            go_meet
                            exact ⟨true, rfl, by simp, by simp, rfl⟩
                      case rest =>
                        obtain ⟨g2', rfl, gy2, gn2, rfl⟩ := hcut
                        have GN2 := Lib.hid gn2
                        clear gn2
                        have hw : IntKind.i64.wrap ((i : Int) + 1) = ((i + 1 : Nat) : Int) := by rw [IntWalk.i64_in _ (by omega)]; omega
                        cases g2'
                        · go_wp2_with fail
                          go_roundg (N - (i + 1))
                          case measure => omega
                          case rel =>
                            refine ⟨i + 1, s, m1, got2, cnt1, due1, ha, hb2, va2, vb3, rfl, by omega, rfl, rfl, rfl, ?_, ?_, BE4.out⟩
                            · have q1 := M1.out
                              have q2 := E0.out
                              have q3 := FULL.out
                              have q4 := RUN.out
                              have q5 := FN.out
                              have q6 := GN.out
                              have q7 := KG.out
                              have q9 := GN2.out
                              have q10 := FYM.out
                              refine all_keep (due := due) s0 sk1' n41 k0 k1 k2 f0 f1 f2 f3 (fun h => ?_) (fun h => ?_)
                              · cases ok
                                · have := (q5 rfl).1
                                  have := q2 (by omega)
                                  omega
                                · have := q10 rfl
                                  omega
                              · have hg : g = false := by
                                  cases g
                                  · rfl
                                  · have := (q7 rfl).2.1
                                    rw [← q9 h] at this
                                    cases this
                                have hok : ok = false := by rw [← q6 h, hg]
                                have q5' := q5 hok
                                rcases q4 h with e | ⟨e1, e2, e3⟩
                                · exact .inl e
                                · exact .inr ⟨e1, by omega, q5'.1, e3⟩
                            · exact TW4.out
                        · have hans := gy2 rfl
                          subst hans
                          obtain ⟨hP3, hP4⟩ := FY2.out rfl
                          have HP := Lib.hid hP4
                          clear hP4
                          have hg : g = true := by
                            cases g
                            · exact (KN.out rfl).symm
                            · rfl
                          obtain ⟨hgs, _, hm0⟩ := KG.out hg
                          obtain ⟨m3, hm3⟩ : ∃ m3, m1 = m3 + 1 := ⟨m1 - 1, by omega⟩
                          obtain ⟨ha', hr⟩ := stA_recv_yes s m3 cnt1 due1 ha i (by omega) (by omega)
                          have cr := two_recv TW4.out ⟨0, 1, 0, got2, false, ⟨0, 0, 0, 0⟩⟩ rfl rfl i
                          simp only at cr
                          have hz : (⟨0, 0, 0, 0⟩ : Mg) = Mg.zero := rfl
                          rw [hgs, hm3, hz, hr] at cr
                          have CR := Lib.hid cr
                          have HGS := Lib.hid hgs
                          have HM3 := Lib.hid hm3
                          clear cr hr hz hgs hm3 hg
                          unfold Pk.v Mg.v Mg.zero at CR
                          rw [HGS.out] at HP
                          go_wp2_with (first
                            | (with_reducible refine wpList_load_row rfl 38 (.tmp 16) rfl P2 rfl 38 _ (0, 0) _ HP.out Try.underlying38 rfl (by kernel_rfl) ?_)
                            | (go_at_call 10; refine CR.out.mono ?_; rintro e w' ⟨rfl, va', o', t', u'⟩; have t' := Lib.hid t'; have b' := Lib.hid (Two.below_at BE4.out hla u'); clear u'))
                          go_roundg (N - (i + 1))
                          case measure => omega
                          case rel =>
                            refine ⟨i + 1, s + 1, m3, got2, 0, 0, ha', hb2, va', vb3, rfl, by omega, ?_, rfl, rfl, ?_, ?_, b'.out⟩
                            · rw [HM3.out]; congr 1; omega
                            · rw [HGS.out]
                              refine all_pop s0 (by have := HM3.out; omega) (by have := HM3.out; omega) (fun h => ?_)
                              rcases RUN.out h with e | ⟨e1, e2, e3⟩
                              · exact .inl e
                              · exact .inr ⟨e1, e2⟩
                            · have q := t'.out
                              rw [HGS.out]
                              exact q
      · have hlt' : ¬ (i : Int) < 60 + 20 * k + T := by omega
        have q1 := RUN.out (by omega)
        have hs : s = (k : Int) := by omega
        have hm : m = 0 := by omega
        have hg : got = (k : Int) := by omega
        subst hs hm hg
        clear q1
        go_wp2_with (first
          | (go_at_call 12; refine (answers_any _).mono ?_; rintro e w' ⟨rfl, bb⟩
             have t' := Lib.hid (TW.out.upd (Upd.of_below bb) (by have := TW.out.la; have := TW.out.lo_le; omega) (by have := TW.out.lb; have := TW.out.lo_le; omega) (fun q hq => by have := (TW.out.a.que.lt q hq).2; omega) (fun q hq => by have := (TW.out.b.que.lt q hq).2; omega))
             have CW := Lib.hid (waits_any w' La lo va _ t'.out.a)
             have bb' := Lib.hid bb
             clear bb)
          | (go_at_call 11; refine CW.out.mono ?_; rintro e w'' ⟨rfl, rfl⟩))
        go_ret
        exact ⟨rfl, BE.out.trans (bb'.out.mono BE.out.size)⟩
end Go.Proofs.Ytbbacdaenpildaa.X

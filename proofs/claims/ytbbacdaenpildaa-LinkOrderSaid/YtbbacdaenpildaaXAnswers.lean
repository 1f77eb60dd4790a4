/- The witness of the laws of links: two new links, a message sent, polled, received, answered: true, for every world. -/
import Derived.Test.YtbbacdaenpildaaXTwo
namespace Go.Proofs.Ytbbacdaenpildaa.X
open Go.RowKit Go.Proofs.Ytbbacdaenpildaa.XTick

theorem config_any (w : World) : Calls Try.prog 6 #[] w fun e w' => e = .returned (.agg #[.int .i64 0, .int .i64 0, .int .i64 0, .int .i64 0, .int .i64 0, .int .i64 0, .int .i64 0, .int .i64 0, .int .i64 0, .int .i64 0, .int .i64 0, .int .i64 0, .int .i64 0,
      .int .i64 2, .int .i64 9, .int .i64 3, .int .i64 50, .int .i64 4]) ∧ Below w.heap.size w w' := by
  go_enter Try.func6, Try.ntmps6
  go_wp2
  exact bodyPost_ret (results_cell_row Try.results6 _ _ w.heap.size 24 _ (0, 0) _ rfl (heap_alloc_new _ _) Try.underlying24 rfl (by kernel_rfl)) rfl ⟨rfl, (Below.refl _ _).alloc (Nat.le_refl _) _⟩

/-- Two new links. -/
theorem two_new {W W1 W2 W3 W4 : World} {tr dd tr' dd' ses ep ses' ep' now now' : Int} {e1 e2 : Ending} (h1 : Below W.heap.size W W1) (n1 : NewPost W1 tr dd ses ep now e1 W2) (h2 : Below W2.heap.size W2 W3) (n2 : NewPost W3 tr' dd' ses' ep' now' e2 W4) :
    ∃ La Lb, e1 = .returned (.pointer (some ⟨La, 0, none⟩)) ∧ e2 = .returned (.pointer (some ⟨Lb, 0, none⟩)) ∧ W.heap.size ≤ La ∧ W.heap.size ≤ Lb ∧ Below W.heap.size W W4 ∧
      Two W4 W4.heap.size La Lb (.slice none 0 0) (.slice none 0 0) ⟨tr, dd, ses, ep, [], 0, 0, 0, 0, false, cl now⟩ ⟨tr', dd', ses', ep', [], 0, 0, 0, 0, false, cl now'⟩ := by
  obtain ⟨La, rfl, la, ba, bb⟩ := n1
  obtain ⟨Lb, rfl, lb, bc, bd⟩ := n2
  have s1 := h1.size
  have s2 := bb.size
  have s3 := h2.size
  have s4 := bd.size
  have l1 := at_lt ba
  have l2 := at_lt bc
  refine ⟨La, Lb, rfl, rfl, by omega, by omega, ((h1.trans (bb.mono s1)).trans (h2.mono (by omega))).trans (bd.mono (by omega)), ⟨⟨?_, .inl ⟨rfl, rfl⟩⟩, ⟨bc, .inl ⟨rfl, rfl⟩⟩, fun k hk => by simp [Value.ownBlock] at hk, by omega, by omega, l2, Nat.le_refl _⟩⟩
  rw [bd.block La (by omega), h2.block La (by omega)]
  exact ba

set_option maxHeartbeats 4000000 in
theorem answers_any (w : World) : Calls Try.prog 12 #[] w fun e w' => e = .returned (.bool true) ∧ Below w.heap.size w w' := by
  go_enter Try.func12, Try.ntmps12
  go_wp2_with fail
  refine (config_any _).mono ?_
  rintro e0 w0 ⟨rfl, h0⟩
  go_wp2_with fail
  refine (new_any _ 3 50 1 7 0 (by omega)).mono ?_
  intro e1 w1 n1
  have n1' := n1
  obtain ⟨La, rfl, _⟩ := n1'
  have N1 := Lib.hid n1
  clear n1
  go_wp2_with fail
  refine (config_any _).mono ?_
  rintro e2 w2 ⟨rfl, h2⟩
  go_wp2_with fail
  refine (new_any _ 3 50 1 7 0 (by omega)).mono ?_
  intro e3 w3 n3
  have n3' := n3
  obtain ⟨Lb, rfl, _⟩ := n3'
  obtain ⟨La', Lb', ea, eb, hla, hlb, hb, two⟩ := two_new h0 N1.out h2 n3
  have ea' : La' = La := by simpa using ea.symm
  have eb' : Lb' = Lb := by simpa using eb.symm
  subst ea' eb'
  have T0 := Lib.hid two
  have B0 := Lib.hid hb
  clear N1 n3 ea eb two hb h0 h2
  go_wp2_with fail
  refine (two_send T0.out ⟨5, 0, 0, 0⟩ (by simp)).mono ?_
  rintro e4 w4 ⟨rfl, va4, t4, u4, o4⟩
  have b4 : Below w.heap.size w w4 := B0.out.trans (u4.below B0.out.size (fun k hk => by rcases hk with rfl | hk; exact hla; simp [Value.ownBlock] at hk))
  have T4 := Lib.hid t4
  have B4 := Lib.hid b4
  clear T0 B0 t4 b4 u4 o4
  have hp1 : (LS.push ⟨3, 50, 1, 7, [], 0, 0, 0, 0, false, cl 0⟩ ⟨5, 0, 0, 0⟩).poll 0 = (⟨3, 50, 1, 7, [⟨5, 0, 0, 0⟩], 0, 0, 1, 2, false, 0⟩, ⟨1, 7, 0, 0, true, ⟨5, 0, 0, 0⟩⟩, true) := rfl
  have c5 := two_poll T4.out 0 (by simp [LS.push])
  rw [hp1] at c5
  have C5 := Lib.hid c5
  clear c5 hp1
  go_wp2_with fail
  refine C5.out.mono ?_
  rintro e5 w5 ⟨rfl, va5, o5, t5, u5⟩
  have b5 : Below w.heap.size w w5 := B4.out.trans (u5.below B4.out.size (fun k hk => by rcases hk with rfl; exact hla))
  have T5 := Lib.hid t5
  have B5 := Lib.hid b5
  clear T4 B4 C5 t5 b5 u5 o5
  have hp2 : (LS.mk 3 50 1 7 [⟨5, 0, 0, 0⟩] 0 0 1 2 false 0).poll 0 = (⟨3, 50, 1, 7, [⟨5, 0, 0, 0⟩], 0, 0, 1, 2, false, 0⟩, Pk.zero, false) := rfl
  unfold Pk.v
  go_wp2_with fail
  have k5 : ∀ o : Obj, Two (w5.alloc o) _ _ _ _ _ _ _ := fun o => T5.out.upd ((Upd.refl (fun _ => False) w5).alloc o) (fun h => h) (fun h => h) (fun _ _ h => h) (fun _ _ h => h)
  have c6 := two_poll (k5 (.cells #[.int .i64 1, .int .i64 7, .int .i64 0, .int .i64 0, .bool true, .int .i64 5, .int .i64 0, .int .i64 0, .int .i64 0] 38 (0, 0))) 0 (by simp)
  rw [hp2] at c6
  refine c6.mono ?_
  clear c6
  rintro e6 w6 ⟨rfl, va6, o6, t6, u6⟩
  have hz5 := B5.out.size
  have x6 : w6.heap[w5.heap.size]? = some (.cells #[.int .i64 1, .int .i64 7, .int .i64 0, .int .i64 0, .bool true, .int .i64 5, .int .i64 0, .int .i64 0, .int .i64 0] 38 (0, 0)) :=
    at_upd u6 (heap_alloc_new _ _) (by have := T5.out.la; have := T5.out.lo_le; omega)
  have b6 : Below w.heap.size w w6 := (B5.out.alloc hz5 _).trans (u6.below (by simp; omega) (fun k hk => by rcases hk with rfl; exact hla))
  have T6 := Lib.hid t6
  have B6 := Lib.hid b6
  have X6 := Lib.hid x6
  obtain ⟨P4, hP4⟩ : ∃ P4, w5.heap.size = P4 := ⟨_, rfl⟩
  rw [hP4] at X6 ⊢
  clear T5 B5 k5 hp2 t6 b6 x6 u6 o6 hP4 hz5
  have hz6 := B6.out.size
  unfold Pk.v
  go_wp2_with (with_reducible refine wpList_load_row rfl 38 (.tmp 4) rfl P4 rfl 38 _ (0, 0) _ (at_alloc X6.out _) Try.underlying38 rfl (by kernel_rfl) ?_)
  have k6 : ∀ o : Obj, Two (w6.alloc o) _ _ _ _ _ _ _ := fun o => T6.out.upd ((Upd.refl (fun _ => False) w6).alloc o) (fun h => h) (fun h => h) (fun _ _ h => h) (fun _ _ h => h)
  have c7 := two_recv (k6 (.cells Pk.zero.cells.toArray 38 (0, 0))).swap ⟨1, 7, 0, 0, true, ⟨5, 0, 0, 0⟩⟩ rfl rfl 0
  have hr1 : (LS.mk 3 50 1 7 [] 0 0 0 0 false (cl 0)).recv 0 0 true ⟨5, 0, 0, 0⟩ 0 = (⟨3, 50, 1, 7, [], 0, 1, 0, 0, true, 0⟩, ⟨5, 0, 0, 0⟩, true) := rfl
  simp only at c7
  rw [hr1] at c7
  refine c7.mono ?_
  clear c7 hr1
  rintro e7 w7 ⟨rfl, vb7, o7, t7', u7⟩
  have t7 := t7'.swap
  have b7 : Below w.heap.size w w7 := (B6.out.alloc hz6 _).trans (u7.below (by simp; omega) (fun k hk => by rcases hk with rfl; exact hlb))
  have T7 := Lib.hid t7
  have B7 := Lib.hid b7
  clear T6 B6 k6 X6 t7 t7' b7 u7 o7 hz6
  have hz7 := B7.out.size
  unfold Mg.v
  go_wp2_with fail
  have k7 : ∀ o : Obj, Two (w7.alloc o) _ _ _ _ _ _ _ := fun o => T7.out.upd ((Upd.refl (fun _ => False) w7).alloc o) (fun h => h) (fun h => h) (fun _ _ h => h) (fun _ _ h => h)
  have c8 := two_poll (k7 (.cells #[.int .i64 5, .int .i64 0, .int .i64 0, .int .i64 0] 36 (0, 0))).swap 0 (by simp)
  have hp3 : (LS.mk 3 50 1 7 [] 0 1 0 0 true 0).poll 0 = (⟨3, 50, 1, 7, [], 0, 1, 0, 0, false, 0⟩, ⟨1, 7, 0, 1, false, Mg.zero⟩, true) := rfl
  rw [hp3] at c8
  refine c8.mono ?_
  clear c8 hp3
  rintro e8 w8 ⟨rfl, vb8, o8, t8', u8⟩
  have t8 := t8'.swap
  have m8 : w8.heap[w7.heap.size]? = some (.cells #[.int .i64 5, .int .i64 0, .int .i64 0, .int .i64 0] 36 (0, 0)) :=
    at_upd u8 (heap_alloc_new _ _) (by have := T7.out.lb; have := T7.out.lo_le; omega)
  have b8 : Below w.heap.size w w8 := (B7.out.alloc hz7 _).trans (u8.below (by simp; omega) (fun k hk => by rcases hk with rfl; exact hlb))
  have T8 := Lib.hid t8
  have B8 := Lib.hid b8
  have M8 := Lib.hid m8
  obtain ⟨P8, hP8⟩ : ∃ P8, w7.heap.size = P8 := ⟨_, rfl⟩
  rw [hP8] at M8 ⊢
  have hlo8 : w3.heap.size ≤ P8 := by have := T7.out.lo_le; omega
  clear T7 B7 k7 t8 t8' b8 m8 u8 o8 hP8 hz7
  have hz8 := B8.out.size
  unfold Pk.v
  have k8 : ∀ o : Obj, Two (w8.alloc o) _ _ _ _ _ _ _ := fun o => T8.out.upd ((Upd.refl (fun _ => False) w8).alloc o) (fun h => h) (fun h => h) (fun _ _ h => h) (fun _ _ h => h)
  go_wp2_with (with_reducible refine wpList_load_row rfl 38 (.tmp 10) rfl w8.heap.size rfl 38 _ (0, 0) _ (heap_alloc_new _ _) Try.underlying38 rfl (by kernel_rfl) ?_)
  have c9 := two_recv (k8 (.cells #[.int .i64 1, .int .i64 7, .int .i64 0, .int .i64 1, .bool false, .int .i64 0, .int .i64 0, .int .i64 0, .int .i64 0] 38 (0, 0))) ⟨1, 7, 0, 1, false, Mg.zero⟩ rfl rfl 0
  have hr2 : (LS.mk 3 50 1 7 [⟨5, 0, 0, 0⟩] 0 0 1 2 false 0).recv 0 1 false Mg.zero 0 = (⟨3, 50, 1, 7, [], 1, 0, 0, 0, false, 0⟩, Mg.zero, false) := rfl
  simp only at c9
  rw [hr2] at c9
  refine c9.mono ?_
  clear c9 hr2
  rintro e9 w9 ⟨rfl, va9, o9, t9, u9⟩
  have m9 : w9.heap[P8]? = some (.cells #[.int .i64 5, .int .i64 0, .int .i64 0, .int .i64 0] 36 (0, 0)) := at_upd u9 (at_alloc M8.out _) (by have := T8.out.la; omega)
  have q9 : w9.heap[w8.heap.size]? = some (.cells #[.int .i64 1, .int .i64 7, .int .i64 0, .int .i64 1, .bool false, .int .i64 0, .int .i64 0, .int .i64 0, .int .i64 0] 38 (0, 0)) :=
    at_upd u9 (heap_alloc_new _ _) (by have := T8.out.la; have := T8.out.lo_le; omega)
  have b9 : Below w.heap.size w w9 := (B8.out.alloc hz8 _).trans (u9.below (by simp; omega) (fun k hk => by rcases hk with rfl; exact hla))
  have d0 := at_cell m9 (o := 0) rfl
  have d3 := at_cell q9 (o := 3) rfl
  have d4 := at_cell q9 (o := 4) rfl
  have T9 := Lib.hid t9
  have B9 := Lib.hid b9
  clear T8 B8 k8 M8 m9 q9 t9 b9 u9 o9 hz8 hlo8
  have cw := waits_any w9 La' w3.heap.size va9 _ T9.out.a
  have ce := epoch_any w9 La' w3.heap.size va9 _ T9.out.a
  simp only [List.length_nil] at cw
  have CW := Lib.hid cw
  have CE := Lib.hid ce
  clear cw ce
  go_wp2_with (first
    | (go_at_call 11; refine CW.out.mono ?_; rintro e w' ⟨rfl, rfl⟩)
    | (go_at_call 14; refine CE.out.mono ?_; rintro e w' ⟨rfl, rfl⟩))
  go_ret
  exact ⟨rfl, B9.out⟩
end Go.Proofs.Ytbbacdaenpildaa.X

/- (*Link).Poll: the first message if it waits and is due; else an answer, if one is due; else none. For every link that lies as 'LinkIs' says; times from 0 to 2^40. -/
import Derived.Test.YtbbacdaenpildaaXBase
import Derived.Test.YtbbacdaenpildaaXLink
import Derived.BigQuiet
import Derived.Deep.QuietTactic
import Derived.Deep.RegionHeld3
namespace Go.Proofs.Ytbbacdaenpildaa.X
open Go.RowKit Go.Proofs.Ytbbacdaenpildaa.XTick

/-- A packet, stored whole into a row of its kind. -/
theorem wpList_store38 {ops : Array Oper} {rest : List Oper} {o : Oper} {a : Act} {w : World} {Q : Exit → Act → World → Prop} (hgd : o.guard = none) (x y : Operand) (ho : o.op = .store 38 x y)
    (g : Nat) (hx : a.eval x = .pointer (some ⟨g, 0, none⟩)) (s e q c k m0 m1 m2 : Int) (has : Bool) (hy : a.eval y = .agg #[.int .i64 s, .int .i64 e, .int .i64 q, .int .i64 c, .bool has, .int .i64 k, .int .i64 m0, .int .i64 m1, .int .i64 m2])
    (old : Array Value) (hs : old.size = 9) (t : TypeId) (hg : w.heap[g]? = some (.cells old t (0, 0)))
    (h : wpList Try.prog ops Q rest (a.put o.dst undef) (w.setRow g #[.int .i64 s, .int .i64 e, .int .i64 q, .int .i64 c, .bool has, .int .i64 k, .int .i64 m0, .int .i64 m1, .int .i64 m2])) : wpList Try.prog ops Q (o :: rest) a w :=
  wpList_store_row hgd 38 x y ho g _ hx hy t old hg (by kernel_rfl) (by rw [hs]; rfl) (by simp [Value.oneCell']) h

/-- Is the first message due? -/
def LS.ready (s : LS) (now : Int) : Bool := decide (0 < s.q.length) && decide (cl s.due ≤ cl now)

theorem ready_any (W : World) (L lo : Nat) (v : Value) (s : LS) (now : Int) (h : LinkIs W L lo v s) :
    Calls Try.prog 16 #[.pointer (some ⟨L, 0, none⟩), .int .i64 now] W fun e w' => e = .returned (.bool (s.ready now)) ∧ W = w' := by
  obtain ⟨ad, cap, rfl, hl, hm⟩ := h.que.shape
  have c20 : W.cell? ⟨L, 20, none⟩ = some (.slice ad s.q.length cap) := at_cell h.blk rfl
  have c24 : W.cell? ⟨L, 24, none⟩ = some (.int .i64 s.due) := at_cell h.blk rfl
  unfold maxLen at hm
  clear h
  by_cases hq : 0 < s.q.length
  · have hr : s.ready now = decide (cl s.due ≤ cl now) := by simp [LS.ready, hq]
    have HR := Lib.hid hr
    clear hr
    generalize s.q.length = n at *
    go_enter Try.func16, Try.ntmps16
    go_wp2_with (go_at_call 21; refine (late_any _ _ _).mono ?_; rintro e w' ⟨rfl, rfl⟩)
    go_ret
    exact ⟨by rw [HR.out]; rfl, rfl⟩
  · have hr : s.ready now = false := by simp [LS.ready, hq]
    have HR := Lib.hid hr
    have hn : s.q.length = 0 := by omega
    clear hr hq
    rw [hn] at c20 hl
    clear hn
    go_enter Try.func16, Try.ntmps16
    go_wp2
    go_ret
    exact ⟨by rw [HR.out]; rfl, rfl⟩

theorem poll_idle (W : World) (L lo : Nat) (v : Value) (s : LS) (now : Int) (h : LinkIs W L lo v s) (hr : s.ready now = false) (ha : s.ans = false) :
    Calls Try.prog 9 #[.pointer (some ⟨L, 0, none⟩), .int .i64 now] W fun e w' => e = .returned (.tuple #[Pk.zero.v, .bool false]) ∧ Upd (fun _ => False) W w' := by
  have c18 : W.cell? ⟨L, 18, none⟩ = some (.int .i64 s.ses) := at_cell h.blk rfl
  have c19 : W.cell? ⟨L, 19, none⟩ = some (.int .i64 s.ep) := at_cell h.blk rfl
  have c21 : W.cell? ⟨L, 21, none⟩ = some (.int .i64 s.seq) := at_cell h.blk rfl
  have c22 : W.cell? ⟨L, 22, none⟩ = some (.int .i64 s.ack) := at_cell h.blk rfl
  have c25 : W.cell? ⟨L, 25, none⟩ = some (.bool false) := at_cell h.blk (by rw [← ha]; rfl)
  have hL := at_lt h.blk
  have H := Lib.hid h
  have HR := Lib.hid hr
  clear h hr ha
  go_enter Try.func9, Try.ntmps9
  go_wp2_with fail
  go_region_held3 (fun w' => w'.cell? ⟨L, 18, none⟩ = some (.int .i64 s.ses) ∧ w'.cell? ⟨L, 19, none⟩ = some (.int .i64 s.ep) ∧ w'.cell? ⟨L, 21, none⟩ = some (.int .i64 s.seq) ∧ w'.cell? ⟨L, 22, none⟩ = some (.int .i64 s.ack)) (go_keep) (first | fail)
  go_wp2_with fail
  obtain ⟨W3, hW3⟩ : ∃ W3, ((W.alloc (.cells #[.int .i64 0, .int .i64 0, .int .i64 0, .int .i64 0, .bool false, .int .i64 0, .int .i64 0, .int .i64 0, .int .i64 0] 38 (0, 0))).alloc
    (.cells #[.int .i64 s.ses, .int .i64 s.ep, .int .i64 s.seq, .int .i64 s.ack, .bool false, .int .i64 0, .int .i64 0, .int .i64 0, .int .i64 0] 38 (0, 0))).drew = W3 := ⟨_, rfl⟩
  have U3 : Upd (fun _ => False) W W3 := by rw [← hW3]; exact (((Upd.refl _ _).alloc _).alloc _).drew
  have hR : W3.heap[W.heap.size]? = some (.cells #[.int .i64 0, .int .i64 0, .int .i64 0, .int .i64 0, .bool false, .int .i64 0, .int .i64 0, .int .i64 0, .int .i64 0] 38 (0, 0)) := by rw [← hW3]; exact at_drew (at_alloc (heap_alloc_new _ _) _)
  rw [hW3]
  clear hW3
  have h3 := H.out.upd U3 (fun h => h) (fun _ _ h => h)
  have k25 : W3.cell? ⟨L, 25, none⟩ = some (.bool false) := (World.cell?_of_block (w := W) (a := ⟨L, 25, none⟩) (U3.block L hL (fun h => h))).trans c25
  have r0 := at_cell hR (o := 0) rfl
  have r1 := at_cell hR (o := 1) rfl
  have r2 := at_cell hR (o := 2) rfl
  have r3 := at_cell hR (o := 3) rfl
  have r4 := at_cell hR (o := 4) rfl
  have r5 := at_cell hR (o := 5) rfl
  have r6 := at_cell hR (o := 6) rfl
  have r7 := at_cell hR (o := 7) rfl
  have r8 := at_cell hR (o := 8) rfl
  have rf := at_free hR
  have HR3 := Lib.hid hR
  have H3 := Lib.hid h3
  clear hR h3 c18 c19 c21 c22 c25
  refine (ready_any _ L lo v s now H3.out).mono ?_
  rw [HR.out]
  rintro e w1 ⟨rfl, rfl⟩
  go_wp2_with fail
  change bodyPost _ _ _ _ _ (World.setCells W3 W.heap.size 0 Pk.zero.cells)
  exact bodyPost_ret (results_cell_tmp Try.results9 _ _ W.heap.size 38 _ (0, 0) _ (.bool false) rfl rfl (at_fill HR3.out Pk.zero.cells rfl) Try.underlying38 rfl (by kernel_rfl)) rfl ⟨rfl, Upd.setCells (.inr (Nat.le_refl _)) _ _ _ U3⟩

theorem poll_ans (W : World) (L lo : Nat) (v : Value) (s : LS) (now : Int) (h : LinkIs W L lo v s) (hL' : L < lo) (hr : s.ready now = false) (ha : s.ans = true) :
    Calls Try.prog 9 #[.pointer (some ⟨L, 0, none⟩), .int .i64 now] W fun e w' => e = .returned (.tuple #[(Pk.mk s.ses s.ep s.seq s.ack false Mg.zero).v, .bool true]) ∧ LinkIs w' L lo v { s with ans := false } ∧ Upd (fun k => k = L) W w' := by
  have c18 : W.cell? ⟨L, 18, none⟩ = some (.int .i64 s.ses) := at_cell h.blk rfl
  have c19 : W.cell? ⟨L, 19, none⟩ = some (.int .i64 s.ep) := at_cell h.blk rfl
  have c21 : W.cell? ⟨L, 21, none⟩ = some (.int .i64 s.seq) := at_cell h.blk rfl
  have c22 : W.cell? ⟨L, 22, none⟩ = some (.int .i64 s.ack) := at_cell h.blk rfl
  have c25 : W.cell? ⟨L, 25, none⟩ = some (.bool true) := at_cell h.blk (by rw [← ha]; rfl)
  have hL := at_lt h.blk
  have hv : ∀ k, v.ownBlock = some k → ¬ k = L := fun k hk e => by have := (h.que.lt k hk).1; omega
  have H := Lib.hid h
  have HR := Lib.hid hr
  clear h hr ha
  go_enter Try.func9, Try.ntmps9
  go_wp2_with fail
  go_region_held3 (fun w' => w'.cell? ⟨L, 18, none⟩ = some (.int .i64 s.ses) ∧ w'.cell? ⟨L, 19, none⟩ = some (.int .i64 s.ep) ∧ w'.cell? ⟨L, 21, none⟩ = some (.int .i64 s.seq) ∧ w'.cell? ⟨L, 22, none⟩ = some (.int .i64 s.ack)) (go_keep) (first | fail)
  go_wp2_with fail
  obtain ⟨W3, hW3⟩ : ∃ W3, ((W.alloc (.cells #[.int .i64 0, .int .i64 0, .int .i64 0, .int .i64 0, .bool false, .int .i64 0, .int .i64 0, .int .i64 0, .int .i64 0] 38 (0, 0))).alloc
    (.cells #[.int .i64 s.ses, .int .i64 s.ep, .int .i64 s.seq, .int .i64 s.ack, .bool false, .int .i64 0, .int .i64 0, .int .i64 0, .int .i64 0] 38 (0, 0))).drew = W3 := ⟨_, rfl⟩
  have U3 : Upd (fun _ => False) W W3 := by rw [← hW3]; exact (((Upd.refl _ _).alloc _).alloc _).drew
  have hR : W3.heap[W.heap.size]? = some (.cells #[.int .i64 0, .int .i64 0, .int .i64 0, .int .i64 0, .bool false, .int .i64 0, .int .i64 0, .int .i64 0, .int .i64 0] 38 (0, 0)) := by rw [← hW3]; exact at_drew (at_alloc (heap_alloc_new _ _) _)
  have hP : W3.heap[W.heap.size + 1]? = some (.cells #[.int .i64 s.ses, .int .i64 s.ep, .int .i64 s.seq, .int .i64 s.ack, .bool false, .int .i64 0, .int .i64 0, .int .i64 0, .int .i64 0] 38 (0, 0)) := by
    rw [← hW3]; exact at_drew (heap_alloc2_new _ _ _)
  rw [hW3]
  clear hW3
  have h3 := H.out.upd U3 (fun h => h) (fun _ _ h => h)
  have k25 : W3.cell? ⟨L, 25, none⟩ = some (.bool true) := (World.cell?_of_block (w := W) (a := ⟨L, 25, none⟩) (U3.block L hL (fun h => h))).trans c25
  have r0 := at_cell hR (o := 0) rfl
  have r1 := at_cell hR (o := 1) rfl
  have r2 := at_cell hR (o := 2) rfl
  have r3 := at_cell hR (o := 3) rfl
  have r4 := at_cell hR (o := 4) rfl
  have r5 := at_cell hR (o := 5) rfl
  have r6 := at_cell hR (o := 6) rfl
  have r7 := at_cell hR (o := 7) rfl
  have r8 := at_cell hR (o := 8) rfl
  have rf := at_free hR
  have k25f := at_free h3.blk 25
  have HR3 := Lib.hid hR
  have HP3 := Lib.hid hP
  have H3 := Lib.hid h3
  clear hR hP h3 c18 c19 c21 c22 c25
  refine (ready_any _ L lo v s now H3.out).mono ?_
  rw [HR.out]
  rintro e w1 ⟨rfl, rfl⟩
  go_wp2_with (with_reducible refine wpList_load_row rfl 38 (.tmp 6) rfl (W.heap.size + 1) rfl 38 _ (0, 0) _ (at_other HP3.out (Nat.ne_of_gt (Nat.lt_succ_of_lt hL)) _) Try.underlying38 rfl (by kernel_rfl) ?_)
  change bodyPost _ _ _ _ _ (World.setCells (W3.setCell ⟨L, 25, none⟩ (.bool false)) W.heap.size 0 (Pk.mk s.ses s.ep s.seq s.ack false Mg.zero).cells)
  have U4 : Upd (fun k => W.heap.size ≤ k) (W3.setCell ⟨L, 25, none⟩ (.bool false)) (World.setCells (W3.setCell ⟨L, 25, none⟩ (.bool false)) W.heap.size 0 (Pk.mk s.ses s.ep s.seq s.ack false Mg.zero).cells) :=
    Upd.setCells (.inl (Nat.le_refl _)) _ _ _ (Upd.refl _ _)
  refine bodyPost_ret (results_cell_tmp Try.results9 _ _ W.heap.size 38 _ (0, 0) _ (.bool true) rfl rfl (at_fill (at_other HR3.out (Nat.ne_of_gt hL) _) (Pk.mk s.ses s.ep s.seq s.ack false Mg.zero).cells rfl) Try.underlying38 rfl (by kernel_rfl)) rfl ⟨rfl, ⟨?_, ?_⟩, ?_⟩
  · exact at_upd U4 (at_same H3.out.blk _) (by simp; omega)
  · exact (H3.out.que.upd (Upd.setCell (X := fun k => k = L) (Upd.refl _ _) (.inl rfl) _) hv).upd U4 (fun k hk e => by have := (H.out.que.lt k hk).2; have e' : W.heap.size ≤ _ := e; omega)
  · exact Upd.trans' (X := fun k => k = L) (Upd.setCell (X := fun k => k = L) (U3.mono (fun _ h => h.elim)) (.inl rfl) _) U4 (fun i hi e => by have e' : W.heap.size ≤ _ := e; omega)

theorem drew_set_ne (w : World) (L o o' : Nat) (u : Value) (h : o ≠ o') : (w.setCell ⟨L, o, none⟩ u).drew.cell? ⟨L, o', none⟩ = w.cell? ⟨L, o', none⟩ :=
  World.cell?_setCell_other _ _ _ _ (by intro e; injection e with _ e2; exact h e2)

/-- The state behind a Poll that sent the first message. -/
def LS.polled (s : LS) (now : Int) : LS := { s with due := cl (cl now + cl (pz 2 9 s.sent)), sent := s.sent + 1, ans := false }

set_option maxHeartbeats 2000000 in
theorem poll_go (W : World) (L lo : Nat) (v : Value) (s : LS) (m : Mg) (rest : List Mg) (now : Int) (h : LinkIs W L lo v s) (hL' : L < lo) (hr : s.ready now = true) (hs : 0 ≤ s.sent ∧ s.sent ≤ 1099511627776) (hm : s.q = m :: rest) :
    Calls Try.prog 9 #[.pointer (some ⟨L, 0, none⟩), .int .i64 now] W fun e w' => e = .returned (.tuple #[(Pk.mk s.ses s.ep s.seq s.ack true m).v, .bool true]) ∧ LinkIs w' L lo v (s.polled now) ∧ Upd (fun k => k = L) W w' := by
  have c18 : W.cell? ⟨L, 18, none⟩ = some (.int .i64 s.ses) := at_cell h.blk rfl
  have c19 : W.cell? ⟨L, 19, none⟩ = some (.int .i64 s.ep) := at_cell h.blk rfl
  have c21 : W.cell? ⟨L, 21, none⟩ = some (.int .i64 s.seq) := at_cell h.blk rfl
  have c22 : W.cell? ⟨L, 22, none⟩ = some (.int .i64 s.ack) := at_cell h.blk rfl
  have hL := at_lt h.blk
  have hv : ∀ k, v.ownBlock = some k → ¬ k = L := fun k hk e => by have := (h.que.lt k hk).1; omega
  obtain ⟨g, off, cap, cur, hvv, hg0, hg1, hg2, hg3, hg4⟩ : ∃ g off cap cur, v = .slice (some ⟨g, off, none⟩) s.q.length cap ∧ lo ≤ g ∧ W.heap[g]? = some (.cells cur 36 (0, 0)) ∧ s.q.length ≤ cap ∧ cap ≤ maxLen ∧
      ∀ j u, (qcells s.q)[j]? = some u → cur[off + j]? = some u := by
    rcases h.que with ⟨_, h0⟩ | ⟨g, off, cap, cur, h1, h2, h3, h4, h5, _, h6⟩
    · rw [hm] at h0; cases h0
    · exact ⟨g, off, cap, cur, h1, h2, h3, h4, h5, h6⟩
  have hgW := at_lt hg1
  have H := Lib.hid h
  have HR := Lib.hid hr
  have HG := Lib.hid hg1
  have HV := Lib.hid hvv
  have HC : ∀ j u, m.cells[j]? = some u → cur[off + j]? = some u := fun j u hu => hg4 j u (by
    rw [hm, qcells_cons, List.getElem?_append_left (List.getElem?_eq_some_iff.1 hu).1]; exact hu)
  have HC' := Lib.hid HC
  have hq1 : 1 ≤ s.q.length := by rw [hm]; simp
  obtain ⟨n, hn⟩ : ∃ n, s.q.length = n := ⟨_, rfl⟩
  rw [hn] at hg2 hq1
  have HN := Lib.hid hn
  unfold maxLen at hg3
  clear h hr hg1 hg4 hvv HC hn hm
  go_enter Try.func9, Try.ntmps9
  go_wp2_with fail
  go_region_held3 (fun w' => w'.cell? ⟨L, 18, none⟩ = some (.int .i64 s.ses) ∧ w'.cell? ⟨L, 19, none⟩ = some (.int .i64 s.ep) ∧ w'.cell? ⟨L, 21, none⟩ = some (.int .i64 s.seq) ∧ w'.cell? ⟨L, 22, none⟩ = some (.int .i64 s.ack)) (go_keep) (first | fail)
  go_wp2_with fail
  obtain ⟨W3, hW3⟩ : ∃ W3, ((W.alloc (.cells #[.int .i64 0, .int .i64 0, .int .i64 0, .int .i64 0, .bool false, .int .i64 0, .int .i64 0, .int .i64 0, .int .i64 0] 38 (0, 0))).alloc
    (.cells #[.int .i64 s.ses, .int .i64 s.ep, .int .i64 s.seq, .int .i64 s.ack, .bool false, .int .i64 0, .int .i64 0, .int .i64 0, .int .i64 0] 38 (0, 0))).drew = W3 := ⟨_, rfl⟩
  have U3 : Upd (fun _ => False) W W3 := by rw [← hW3]; exact (((Upd.refl _ _).alloc _).alloc _).drew
  have hR : W3.heap[W.heap.size]? = some (.cells #[.int .i64 0, .int .i64 0, .int .i64 0, .int .i64 0, .bool false, .int .i64 0, .int .i64 0, .int .i64 0, .int .i64 0] 38 (0, 0)) := by rw [← hW3]; exact at_drew (at_alloc (heap_alloc_new _ _) _)
  have hP : W3.heap[W.heap.size + 1]? = some (.cells #[.int .i64 s.ses, .int .i64 s.ep, .int .i64 s.seq, .int .i64 s.ack, .bool false, .int .i64 0, .int .i64 0, .int .i64 0, .int .i64 0] 38 (0, 0)) := by
    rw [← hW3]; exact at_drew (heap_alloc2_new _ _ _)
  rw [hW3]
  clear hW3
  have h3 := H.out.upd U3 (fun h => h) (fun _ _ h => h)
  have hg := at_upd U3 HG.out (fun h => h)
  obtain ⟨Rb, hRb⟩ : ∃ Rb, W.heap.size = Rb := ⟨_, rfl⟩
  obtain ⟨Pb, hPb⟩ : ∃ Pb, W.heap.size + 1 = Pb := ⟨_, rfl⟩
  rw [hPb] at hP ⊢
  rw [hRb] at hR hL hgW ⊢
  have hRP : Rb < Pb := by omega
  have hPW : Pb < W3.heap.size := at_lt hP
  have HPb := Lib.hid hPb
  have HRb := Lib.hid hRb
  have c20 : W3.cell? ⟨L, 20, none⟩ = some (.slice (some ⟨g, off, none⟩) n cap) := at_cell h3.blk (by rw [HV.out, HN.out]; rfl)
  have c13 : W3.cell? ⟨L, 13, none⟩ = some (.int .i64 2) := at_cell h3.blk rfl
  have c14 : W3.cell? ⟨L, 14, none⟩ = some (.int .i64 9) := at_cell h3.blk rfl
  have c23 : W3.cell? ⟨L, 23, none⟩ = some (.int .i64 s.sent) := at_cell h3.blk rfl
  have c24 : W3.cell? ⟨L, 24, none⟩ = some (.int .i64 s.due) := at_cell h3.blk rfl
  have c25 : W3.cell? ⟨L, 25, none⟩ = some (.bool s.ans) := at_cell h3.blk rfl
  have fL := at_free h3.blk
  have m0 : W3.cell? ⟨g, off, none⟩ = some (.int .i64 m.k) := at_cell hg (HC'.out 0 _ rfl)
  have m1 : W3.cell? ⟨g, off + 1, none⟩ = some (.int .i64 m.a) := at_cell hg (HC'.out 1 _ rfl)
  have m2 : W3.cell? ⟨g, off + 2, none⟩ = some (.int .i64 m.b) := at_cell hg (HC'.out 2 _ rfl)
  have m3 : W3.cell? ⟨g, off + 3, none⟩ = some (.int .i64 m.c) := at_cell hg (HC'.out 3 _ rfl)
  have p4 := at_cell hP (o := 4) rfl
  have p5 := at_cell hP (o := 5) rfl
  have p6 := at_cell hP (o := 6) rfl
  have p7 := at_cell hP (o := 7) rfl
  have p8 := at_cell hP (o := 8) rfl
  have fP := at_free hP
  have HR3 := Lib.hid hR
  have HP3 := Lib.hid hP
  have H3 := Lib.hid h3
  clear hR hP h3 hg c18 c19 c21 c22 hPb hRb
  refine (ready_any _ L lo v s now H3.out).mono ?_
  rw [HR.out]
  rintro e w1 ⟨rfl, rfl⟩
  go_wp2_with fail
  go_region
  obtain ⟨W4, hW4⟩ : ∃ W4, (World.setCells W3 Pb 4 [.bool true, .int .i64 m.k, .int .i64 m.a, .int .i64 m.b, .int .i64 m.c]).drew = W4 := ⟨_, rfl⟩
  have U4 : Upd (fun k => k = Pb) W3 W4 := by rw [← hW4]; exact (Upd.setCells (X := fun k => k = Pb) (.inl rfl) _ _ _ (Upd.refl _ _)).drew
  have hP4 : W4.heap[Pb]? = some (.cells #[.int .i64 s.ses, .int .i64 s.ep, .int .i64 s.seq, .int .i64 s.ack, .bool true, .int .i64 m.k, .int .i64 m.a, .int .i64 m.b, .int .i64 m.c] 38 (0, 0)) := by
    rw [← hW4]; exact at_drew (at_same (at_same (at_same (at_same (at_same HP3.out _) _) _) _) _)
  change Exit.then _ _ _ _ (World.setCells W3 Pb 4 [.bool true, .int .i64 m.k, .int .i64 m.a, .int .i64 m.b, .int .i64 m.c]).drew
  rw [hW4]
  clear hW4 c20 c13 c14 c23 c24 c25 fL m0 m1 m2 m3 p4 p5 p6 p7 p8 fP
  have hLP : ¬ L = Pb := by omega
  have h4 := H3.out.upd U4 hLP (fun k hk e => by have := (H.out.que.lt k hk).2; have := HRb.out; omega)
  have hR4 := at_upd U4 HR3.out (by omega)
  have c13 : W4.cell? ⟨L, 13, none⟩ = some (.int .i64 2) := at_cell h4.blk rfl
  have c14 : W4.cell? ⟨L, 14, none⟩ = some (.int .i64 9) := at_cell h4.blk rfl
  have c23 : W4.cell? ⟨L, 23, none⟩ = some (.int .i64 s.sent) := at_cell h4.blk rfl
  have c24 : W4.cell? ⟨L, 24, none⟩ = some (.int .i64 s.due) := at_cell h4.blk rfl
  have c25 : W4.cell? ⟨L, 25, none⟩ = some (.bool s.ans) := at_cell h4.blk rfl
  have f23 := at_free h4.blk 23
  have f24 := at_free h4.blk 24
  have f25 := at_free h4.blk 25
  have B := cl_bd (cl now + cl (pz 2 9 s.sent))
  have kp := fun o u h => drew_set_ne W4 L 24 o u h
  have HR4 := Lib.hid hR4
  have HP4 := Lib.hid hP4
  have H4 := Lib.hid h4
  clear hR4 hP4 h4
  go_wp2_with fail
  go_region_held3 (fun w' => w'.cell? ⟨L, 13, none⟩ = some (.int .i64 2) ∧ w'.cell? ⟨L, 14, none⟩ = some (.int .i64 9) ∧ w'.cell? ⟨L, 23, none⟩ = some (.int .i64 s.sent)) (go_keep)
    (first | (go_at_call 18; refine (pause_any _ _ _ _).mono ?_; rintro e w' ⟨rfl, rfl⟩) | (go_at_call 17; refine (add_any _ _ _).mono ?_; rintro e w' ⟨rfl, rfl⟩))
  obtain ⟨W5, hW5⟩ : ∃ W5, (W4.setCell ⟨L, 24, none⟩ (.int .i64 (cl (cl now + cl (pz 2 9 s.sent))))).drew = W5 := ⟨_, rfl⟩
  have U5 : Upd (fun k => k = L) W4 W5 := by rw [← hW5]; exact (Upd.setCell (X := fun k => k = L) (Upd.refl _ _) (.inl rfl) _).drew
  have b5 : W5.heap[L]? = some (.cells (linkCells { s with due := cl (cl now + cl (pz 2 9 s.sent)) } v) 55 (0, 0)) := by rw [← hW5]; exact at_drew (at_same H4.out.blk _)
  rw [hW5]
  have d23 : W5.cell? ⟨L, 23, none⟩ = some (.int .i64 s.sent) := at_cell b5 rfl
  have d25 : W5.cell? ⟨L, 25, none⟩ = some (.bool s.ans) := at_cell b5 rfl
  have e23 := at_free b5 23
  have e25 := at_free b5 25
  have HB5 := Lib.hid b5
  have HU5 := Lib.hid U5
  clear hW5 c13 c14 c23 c24 c25 f23 f24 f25 kp B b5 U5
  have hP5 := at_upd HU5.out HP4.out (by omega)
  have HP5 := Lib.hid hP5
  have hR5 := at_upd HU5.out HR4.out (by omega)
  have HR5 := Lib.hid hR5
  clear hP5 hR5
  have hz9 : (#[Value.int .i64 0, .int .i64 0, .int .i64 0, .int .i64 0, .bool false, .int .i64 0, .int .i64 0, .int .i64 0, .int .i64 0] : Array Value).size = 9 := rfl
  have hPL : Pb ≠ L := by omega
  have hRL : Rb ≠ L := by omega
  go_wp2_with (first
    | (with_reducible refine wpList_load_row rfl 38 (.tmp 6) rfl Pb rfl 38 _ (0, 0) _ (at_other (at_other HP5.out hPL _) hPL _) Try.underlying38 rfl (by kernel_rfl) ?_)
    | (with_reducible refine wpList_store38 rfl (.tmp 4) (.tmp 76) rfl Rb rfl _ _ _ _ _ _ _ _ _ rfl _ hz9 38 (at_other (at_other HR5.out hRL _) hRL _) ?_))
  obtain ⟨W6, hW6⟩ : ∃ W6, (W5.setCell ⟨L, 23, none⟩ (.int .i64 (s.sent + 1))).setCell ⟨L, 25, none⟩ (.bool false) = W6 := ⟨_, rfl⟩
  have U6 : Upd (fun k => k = L) W5 W6 := by rw [← hW6]; exact Upd.setCell (X := fun k => k = L) (Upd.setCell (X := fun k => k = L) (Upd.refl _ _) (.inl rfl) _) (.inl rfl) _
  have b6 : W6.heap[L]? = some (.cells (linkCells (s.polled now) v) 55 (0, 0)) := by rw [← hW6]; exact at_same (at_same HB5.out _) _
  rw [hW6]
  clear hW6
  have UA : Upd (fun k => k = L) W W6 := by
    refine Upd.trans' (X := fun k => k = L) (Upd.trans' (X := fun k => k = L) (U3.mono (fun _ h => h.elim)) U4 (fun i hi e => ?_)) (HU5.out.trans U6) (fun _ _ e => e)
    have := HPb.out; omega
  have U7 : Upd (fun k => Rb ≤ k) W6 (W6.setRow Rb (Pk.mk s.ses s.ep s.seq s.ack true m).cells.toArray) := (Upd.refl _ _).setRow (.inl (Nat.le_refl _)) _
  refine bodyPost_ret (results_cell_tmp Try.results9 _ _ Rb 38 _ (0, 0) _ (.bool true) rfl rfl (at_setRow (at_upd U6 HR5.out hRL) _) Try.underlying38 rfl (by kernel_rfl)) rfl ⟨rfl, ⟨?_, ?_⟩, ?_⟩
  · exact at_upd U7 b6 (by omega)
  · exact (H.out.que.upd UA hv).upd U7 (fun k hk e => by have := (H.out.que.lt k hk).2; have := HRb.out; have e' : Rb ≤ _ := e; omega)
  · exact Upd.trans' (X := fun k => k = L) UA U7 (fun i hi e => by have := HRb.out; have e' : Rb ≤ _ := e; omega)
end Go.Proofs.Ytbbacdaenpildaa.X

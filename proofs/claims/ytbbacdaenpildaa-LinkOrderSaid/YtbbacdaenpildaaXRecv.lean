/- (*Link).Recv, of a packet of the link's own session and epoch: it is heard; the first message waits no more, if the packet tells that it came; the packet's message is handed on, if it is the one that is wanted. For every link that lies as 'LinkIs' says. -/
import Derived.Test.YtbbacdaenpildaaXPoll
import Derived.StillTailTactics
namespace Go.Proofs.Ytbbacdaenpildaa.X
open Go.RowKit Go.Proofs.Ytbbacdaenpildaa.XTick

/-- What a packet of this session does first: it is heard; if it tells that the first message came, that waits no more. -/
def LS.heard (s : LS) (now : Int) : LS := { s with hd := if s.hd < cl now then cl now else s.hd }
def LS.pops (s : LS) (a : Int) : Bool := decide (0 < s.q.length) && (a == md (s.seq + 1))
def LS.popped (s : LS) (a : Int) : LS := if s.pops a then { s with q := s.q.tail, seq := md (s.seq + 1), sent := 0, due := 0 } else s
def LS.first (s : LS) (a now : Int) : LS := (s.heard now).popped a

def RecvPost (W : World) (L lo : Nat) (v : Value) (s1 : LS) (m : Mg) (ok : Bool) (e : Ending) (w' : World) : Prop :=
  e = .returned (.tuple #[m.v, .bool ok]) ∧ ∃ v', LinkIs w' L lo v' s1 ∧ (v'.ownBlock = v.ownBlock) ∧ Upd (fun k => k = L) W w'

/-- What a packet of this session does: the state behind it, the message that it brought, and whether it brought one. -/
def LS.recv (s : LS) (q a : Int) (has : Bool) (m : Mg) (now : Int) : LS × Mg × Bool :=
  if has = false then (s.first a now, Mg.zero, false)
  else if decide (0 < nr s.ack q) = true then (s.first a now, Mg.zero, false)
  else if (q != s.ack) = true then ({ s.first a now with ans := true }, Mg.zero, false)
  else ({ s.first a now with ans := true, ack := md (s.ack + 1) }, m, true)
theorem first_ack (s : LS) (a now : Int) : (s.first a now).ack = s.ack := by
  unfold LS.first LS.popped; split <;> rfl
theorem first_yes {s : LS} {a now hd : Int} (h : s.pops a = true) (hh : (if s.hd < cl now then cl now else s.hd) = hd) : s.first a now = { s with hd := hd, q := s.q.tail, seq := md (s.seq + 1), sent := 0, due := 0 } := by
  unfold LS.first LS.popped
  rw [if_pos (show (s.heard now).pops a = true from h), ← hh]
  rfl
theorem first_no {s : LS} {a now hd : Int} (h : ¬ s.pops a = true) (hh : (if s.hd < cl now then cl now else s.hd) = hd) : s.first a now = { s with hd := hd } := by
  unfold LS.first LS.popped
  rw [if_neg (show ¬ (s.heard now).pops a = true from h), ← hh]
  rfl

theorem cal1 {W : World} {f : FuncId} {xs : Array Value} {v : Value} (h : Calls Try.prog f xs W fun e w' => e = .returned v ∧ W = w') : Calls Try.prog f xs W fun e w' => e = .returned v ∧ w' = W :=
  h.mono fun _ _ ⟨a, b⟩ => ⟨a, b.symm⟩

theorem newer_is (a b : Int) (r : Bool) (h : decide (0 < nr a b) = r) (w : World) : Calls Try.prog 20 #[.int .i64 a, .int .i64 b] w fun e w' => e = .returned (.bool r) ∧ w = w' := by
  rw [← h]; exact newer_any a b w

/-- The end of a Recv that brought a message or none: the result's row is written, all else lies as in W6. -/
theorem recv_end {W W6 W7 : World} {L lo Rb : Nat} {v v1 : Value} {s1 : LS} (U6 : Upd (fun k => k = L) W W6) (b6 : W6.heap[L]? = some (.cells (linkCells s1 v1) 55 (0, 0))) (q6 : QV W6 lo v1 s1.q) (o6 : v1.ownBlock = v.ownBlock)
    (hv : ∀ k, v.ownBlock = some k → k < W.heap.size) (hRb : W.heap.size ≤ Rb) (hL : L < W.heap.size) (m : Mg) (ok : Bool) (h7 : W6.setCells Rb 0 m.cells = W7) : RecvPost W L lo v s1 m ok (.returned (.tuple #[m.v, .bool ok])) W7 := by
  subst h7
  have U7 : Upd (fun k => Rb = k) W6 (W6.setCells Rb 0 m.cells) := Upd.setCells (.inl rfl) _ _ _ (Upd.refl _ _)
  exact ⟨rfl, v1, ⟨at_upd U7 b6 (by omega), q6.upd U7 (fun k hk e => by rw [o6] at hk; have := hv k hk; omega)⟩, o6, Upd.trans' (X := fun k => k = L) U6 U7 (fun i hi e => by omega)⟩

set_option maxHeartbeats 4000000 in
theorem recv_any (W : World) (L lo : Nat) (v : Value) (s : LS) (q a : Int) (has : Bool) (m : Mg) (now : Int) (h : LinkIs W L lo v s) (hL' : L < lo) :
    Calls Try.prog 10 #[.pointer (some ⟨L, 0, none⟩), (Pk.mk s.ses s.ep q a has m).v, .int .i64 now] W (RecvPost W L lo v (s.recv q a has m now).1 (s.recv q a has m now).2.1 (s.recv q a has m now).2.2) := by
  have c18 : W.cell? ⟨L, 18, none⟩ = some (.int .i64 s.ses) := at_cell h.blk rfl
  have c19 : W.cell? ⟨L, 19, none⟩ = some (.int .i64 s.ep) := at_cell h.blk rfl
  have hL := at_lt h.blk
  have hv : ∀ k, v.ownBlock = some k → ¬ k = L := fun k hk e => by have := (h.que.lt k hk).1; omega
  have H := Lib.hid h
  clear h
  unfold Pk.v
  go_enter Try.func10, Try.ntmps10
  go_wp2
  go_quiet (fail)
  go_wp2_with fail
  obtain ⟨W3, hW3⟩ : ∃ W3, ((W.alloc (.cells #[.int .i64 s.ses, .int .i64 s.ep, .int .i64 q, .int .i64 a, .bool has, .int .i64 m.k, .int .i64 m.a, .int .i64 m.b, .int .i64 m.c] 38 (0, 0))).alloc
    (.cells #[.int .i64 0, .int .i64 0, .int .i64 0, .int .i64 0] 36 (0, 0))).drewN nq = W3 := ⟨_, rfl⟩
  have U3 : Upd (fun _ => False) W W3 := by rw [← hW3]; exact (((Upd.refl _ _).alloc _).alloc _).drewN _
  have hP : W3.heap[W.heap.size]? = some (.cells #[.int .i64 s.ses, .int .i64 s.ep, .int .i64 q, .int .i64 a, .bool has, .int .i64 m.k, .int .i64 m.a, .int .i64 m.b, .int .i64 m.c] 38 (0, 0)) := by rw [← hW3]; exact at_alloc (heap_alloc_new _ _) _
  have hR : W3.heap[W.heap.size + 1]? = some (.cells #[.int .i64 0, .int .i64 0, .int .i64 0, .int .i64 0] 36 (0, 0)) := by rw [← hW3]; exact heap_alloc2_new _ _ _
  rw [hW3]
  clear hW3
  have h3 := H.out.upd U3 (fun h => h) (fun _ _ h => h)
  obtain ⟨Pb, hPb⟩ : ∃ Pb, W.heap.size = Pb := ⟨_, rfl⟩
  obtain ⟨Rb, hRb⟩ : ∃ Rb, W.heap.size + 1 = Rb := ⟨_, rfl⟩
  rw [hRb] at hR ⊢
  rw [hPb] at hP hL ⊢
  have hPR : Pb < Rb := by omega
  have HPb := Lib.hid hPb
  have HRb := Lib.hid hRb
  have c26 : W3.cell? ⟨L, 26, none⟩ = some (.int .i64 s.hd) := at_cell h3.blk rfl
  have f26 := at_free h3.blk 26
  have HR3 := Lib.hid hR
  have HP3 := Lib.hid hP
  have H3 := Lib.hid h3
  clear hR hP h3 hPb hRb c18 c19
  refine wp_region_still_tail 8 (by kernel_rfl) (by kernel_rfl) ?_
  simp only [List.take_succ_cons, List.take_zero, List.drop_succ_cons, List.drop_zero]
  change wpStill _ _ W3.drew _ _ _
  still_step
  still_step
  still_step
  still_step
  still_step
  still_step
  refine wpStill_step (fun K hK => ?_)
  go_simp
  refine ⟨_, cal1 (clamp_any now _), hK _ ?_⟩
  clear hK K
  still_step
  refine wpStill_nil ?_
  change wpList _ _ _ _ _ W3.drew
  generalize hh : (if s.hd < cl now then cl now else s.hd) = hd1
  have HH := Lib.hid hh
  clear hh c26 f26
  obtain ⟨ad, cap, hvv, hl, hmx⟩ := H3.out.que.shape
  have c20 : W3.cell? ⟨L, 20, none⟩ = some (.slice ad s.q.length cap) := at_cell H3.out.blk (by rw [hvv]; rfl)
  have c21 : W3.cell? ⟨L, 21, none⟩ = some (.int .i64 s.seq) := at_cell H3.out.blk rfl
  have c23 : W3.cell? ⟨L, 23, none⟩ = some (.int .i64 s.sent) := at_cell H3.out.blk rfl
  have c24 : W3.cell? ⟨L, 24, none⟩ = some (.int .i64 s.due) := at_cell H3.out.blk rfl
  have c26 : W3.cell? ⟨L, 26, none⟩ = some (.int .i64 s.hd) := at_cell H3.out.blk rfl
  have fL := at_free H3.out.blk
  have p3 : W3.cell? ⟨Pb, 3, none⟩ = some (.int .i64 a) := at_cell HP3.out rfl
  have HV := Lib.hid hvv
  obtain ⟨n, hn⟩ : ∃ n, s.q.length = n := ⟨_, rfl⟩
  rw [hn] at c20 hl
  have HN := Lib.hid hn
  unfold maxLen at hmx
  clear hvv hn
  have hLP : L < Pb := hL
  by_cases hpop : s.pops a = true
  · have hq : 0 < n := by simp [LS.pops] at hpop; have := HN.out; omega
    have ha : (a == md (s.seq + 1)) = true := by simp [LS.pops] at hpop; simp; exact hpop.2
    have HPOP := Lib.hid hpop
    clear hpop
    have hown1 := HV.out
    have hv3 : ∀ k, (Value.slice ad s.q.length cap).ownBlock = some k → ¬ k = L := by rw [← hown1]; exact hv
    have HV3 := Lib.hid hv3
    clear hown1 hv3
    by_cases hc1 : cap = 1
    · subst hc1
      obtain rfl : n = 1 := by omega
      go_wp2_with (go_at_call 19; refine (next_any _ _).mono ?_; rintro e w' ⟨rfl, rfl⟩)
      obtain ⟨W5, hW5⟩ : ∃ W5, World.drew (((((W3.setCell ⟨L, 26, none⟩ (.int .i64 hd1)).setCell ⟨L, 20, none⟩ (Value.slice ad 0 0)).setCell ⟨L, 21, none⟩ (.int .i64 (md (s.seq + 1)))).setCell ⟨L, 23, none⟩ (.int .i64 0)).setCell ⟨L, 24, none⟩ (.int .i64 0)) = W5 := ⟨_, rfl⟩
      have U35 : Upd (fun k => k = L) W3 W5 := by rw [← hW5]; exact Upd.drew (Upd.setCell (X := fun k => k = L) (Upd.setCell (X := fun k => k = L) (Upd.setCell (X := fun k => k = L) (Upd.setCell (X := fun k => k = L) (Upd.setCell (X := fun k => k = L) (Upd.refl (fun k => k = L) W3) (.inl rfl) _) (.inl rfl) _) (.inl rfl) _) (.inl rfl) _) (.inl rfl) _)
      have b5 : W5.heap[L]? = some (.cells (linkCells (s.first a now) (Value.slice ad 0 0)) 55 (0, 0)) := by rw [← hW5, first_yes HPOP.out HH.out]; exact at_drew (at_same (at_same (at_same (at_same (at_same H3.out.blk _) _) _) _) _)
      have q5 : QV W5 lo (Value.slice ad 0 0) (s.first a now).q := by rw [first_yes HPOP.out HH.out]; exact QV.upd (QV.pop_last (by have := H3.out.que; rw [HV.out, HN.out] at this; exact this)) U35 (fun k hk => HV3.out k (by cases ad <;> exact hk))
      have HO5 := Lib.hid (p := (Value.slice ad 0 0).ownBlock = v.ownBlock) (by rw [HV.out]; cases ad <;> rfl)
      rw [hW5]
      obtain ⟨v1, hv1⟩ : ∃ v1, Value.slice ad 0 0 = v1 := ⟨_, rfl⟩
      rw [hv1] at b5 q5 HO5
      have HB5 := Lib.hid b5
      have HQ5 := Lib.hid q5
      have HU35 := Lib.hid U35
      clear hW5 b5 q5 U35 hv1 c20 c21 c23 c24 c26 fL p3 hl hmx
      clear ha hq
      have hP5 := at_upd HU35.out HP3.out (by omega)
      have hR5 := at_upd HU35.out HR3.out (by omega)
      have c22 : W5.cell? ⟨L, 22, none⟩ = some (.int .i64 s.ack) := at_cell HB5.out (by rw [← first_ack s a now]; rfl)
      have c25 : W5.cell? ⟨L, 25, none⟩ = some (.bool (s.first a now).ans) := at_cell HB5.out rfl
      have fL := at_free HB5.out
      have p2 : W5.cell? ⟨Pb, 2, none⟩ = some (.int .i64 q) := at_cell hP5 rfl
      have p4 : W5.cell? ⟨Pb, 4, none⟩ = some (.bool has) := at_cell hP5 rfl
      have p5 : W5.cell? ⟨Pb, 5, none⟩ = some (.int .i64 m.k) := at_cell hP5 rfl
      have p6 : W5.cell? ⟨Pb, 6, none⟩ = some (.int .i64 m.a) := at_cell hP5 rfl
      have p7 : W5.cell? ⟨Pb, 7, none⟩ = some (.int .i64 m.b) := at_cell hP5 rfl
      have p8 : W5.cell? ⟨Pb, 8, none⟩ = some (.int .i64 m.c) := at_cell hP5 rfl
      have r0 : W5.cell? ⟨Rb, 0, none⟩ = some (.int .i64 0) := at_cell hR5 rfl
      have r1 : W5.cell? ⟨Rb, 1, none⟩ = some (.int .i64 0) := at_cell hR5 rfl
      have r2 : W5.cell? ⟨Rb, 2, none⟩ = some (.int .i64 0) := at_cell hR5 rfl
      have r3 : W5.cell? ⟨Rb, 3, none⟩ = some (.int .i64 0) := at_cell hR5 rfl
      have fR := at_free hR5
      have HP5 := Lib.hid hP5
      have HR5 := Lib.hid hR5
      clear hP5 hR5
      have hLR : L < Rb := by omega
      have hvW : ∀ k, v.ownBlock = some k → k < W.heap.size := fun k hk => (H.out.que.lt k hk).2
      have hRW : W.heap.size ≤ Rb := by have := HRb.out; omega
      have hLW : L < W.heap.size := by have := HPb.out; omega
      have UW5 : Upd (fun k => k = L) W W5 := (U3.mono (fun _ h => h.elim)).trans HU35.out
      cases has
      · have hrec : s.recv q a false m now = (s.first a now, Mg.zero, false) := rfl
        have HREC := Lib.hid hrec
        clear hrec
        go_quiet (fail)
        go_wp2
        rw [HREC.out]
        exact bodyPost_ret (results_cell_tmp Try.results10 _ _ Rb 36 _ (0, 0) _ (.bool false) rfl rfl (at_fill (w := W5.drewN nq) HR5.out Mg.zero.cells rfl) Try.underlying36 rfl (by kernel_rfl)) rfl
          (recv_end (UW5.drewN nq) HB5.out (HQ5.out.upd ((Upd.refl (fun _ => False) W5).drewN nq) (fun _ _ h => h)) HO5.out hvW hRW hLW Mg.zero false rfl)
      · cases hnew : decide (0 < nr s.ack q)
        · have HNEW := Lib.hid hnew
          clear hnew
          go_quiet ((go_at_call 20; exact Calls.quiet_of_same (cal1 (newer_is _ _ _ HNEW.out _))))
          go_wp2_with fail
          obtain ⟨nq1, rfl⟩ : ∃ x, x = nq := ⟨nq, rfl⟩
          cases hqa : (q != s.ack)
          · have hrec : s.recv q a true m now = ({ s.first a now with ans := true, ack := md (s.ack + 1) }, m, true) := by
              unfold LS.recv; rw [if_neg (by simp), if_neg (by rw [HNEW.out]; simp), if_neg (by rw [hqa]; simp)]
            have HREC := Lib.hid hrec
            clear hrec
            go_quiet (fail)
            go_wp2_with (go_at_call 19; refine (next_any _ _).mono ?_; rintro e w' ⟨rfl, rfl⟩)
            rw [HREC.out]
            have V6 : Upd (fun k => k = L) W5 ((((W5.drewN nq1).setCell ⟨L, 25, none⟩ (.bool true)).drewN nq).setCell ⟨L, 22, none⟩ (.int .i64 (md (s.ack + 1)))) :=
              Upd.setCell (X := fun k => k = L) ((Upd.setCell (X := fun k => k = L) ((Upd.refl _ W5).drewN nq1) (.inl rfl) _).drewN nq) (.inl rfl) _
            have b5 : ((W5.drewN nq1).setCell ⟨L, 25, none⟩ (.bool true)).heap[L]? = some (.cells (linkCells { s.first a now with ans := true } v1) 55 (0, 0)) := at_same (w := W5.drewN nq1) (o := 25) HB5.out (.bool true)
            have b6 : ((((W5.drewN nq1).setCell ⟨L, 25, none⟩ (.bool true)).drewN nq).setCell ⟨L, 22, none⟩ (.int .i64 (md (s.ack + 1)))).heap[L]? = some (.cells (linkCells { s.first a now with ans := true, ack := md (s.ack + 1) } v1) 55 (0, 0)) :=
              at_same (w := ((W5.drewN nq1).setCell ⟨L, 25, none⟩ (.bool true)).drewN nq) (o := 22) b5 _
            have hv1 : ∀ k, v1.ownBlock = some k → ¬ k = L := by rw [HO5.out]; exact hv
            exact bodyPost_ret (results_cell_tmp Try.results10 _ _ Rb 36 _ (0, 0) _ (.bool true) rfl rfl (at_fill (at_upd V6 HR5.out (by omega)) m.cells rfl) Try.underlying36 rfl (by kernel_rfl)) rfl
              (recv_end (s1 := { s.first a now with ans := true, ack := md (s.ack + 1) }) (UW5.trans V6) b6 (HQ5.out.upd V6 hv1) HO5.out hvW hRW hLW m true rfl)
          · have hrec : s.recv q a true m now = ({ s.first a now with ans := true }, Mg.zero, false) := by
              unfold LS.recv; rw [if_neg (by simp), if_neg (by rw [HNEW.out]; simp), if_pos hqa]
            have HREC := Lib.hid hrec
            clear hrec
            go_quiet (fail)
            go_wp2
            rw [HREC.out]
            have V6 : Upd (fun k => k = L) W5 (((W5.drewN nq1).setCell ⟨L, 25, none⟩ (.bool true)).drewN nq) :=
              (Upd.setCell (X := fun k => k = L) ((Upd.refl _ W5).drewN nq1) (.inl rfl) _).drewN nq
            have b6 : (((W5.drewN nq1).setCell ⟨L, 25, none⟩ (.bool true)).drewN nq).heap[L]? = some (.cells (linkCells { s.first a now with ans := true } v1) 55 (0, 0)) := at_same (w := W5.drewN nq1) (o := 25) HB5.out (.bool true)
            have hv1 : ∀ k, v1.ownBlock = some k → ¬ k = L := by rw [HO5.out]; exact hv
            exact bodyPost_ret (results_cell_tmp Try.results10 _ _ Rb 36 _ (0, 0) _ (.bool false) rfl rfl (at_fill (at_upd V6 HR5.out (by omega)) Mg.zero.cells rfl) Try.underlying36 rfl (by kernel_rfl)) rfl
              (recv_end (s1 := { s.first a now with ans := true }) (UW5.trans V6) b6 (HQ5.out.upd V6 hv1) HO5.out hvW hRW hLW Mg.zero false rfl)
        · have hrec : s.recv q a true m now = (s.first a now, Mg.zero, false) := by
            unfold LS.recv; rw [if_neg (by simp), if_pos hnew]
          have HREC := Lib.hid hrec
          have HNEW := Lib.hid hnew
          clear hrec hnew
          go_quiet ((go_at_call 20; exact Calls.quiet_of_same (cal1 (newer_is _ _ _ HNEW.out _))))
          go_wp2
          rw [HREC.out]
          exact bodyPost_ret (results_cell_tmp Try.results10 _ _ Rb 36 _ (0, 0) _ (.bool false) rfl rfl (at_fill (w := W5.drewN nq) HR5.out Mg.zero.cells rfl) Try.underlying36 rfl (by kernel_rfl)) rfl
            (recv_end (UW5.drewN nq) HB5.out (HQ5.out.upd ((Upd.refl (fun _ => False) W5).drewN nq) (fun _ _ h => h)) HO5.out hvW hRW hLW Mg.zero false rfl)
    · go_wp2_with (go_at_call 19; refine (next_any _ _).mono ?_; rintro e w' ⟨rfl, rfl⟩)
      obtain ⟨W5, hW5⟩ : ∃ W5, World.drew (((((W3.setCell ⟨L, 26, none⟩ (.int .i64 hd1)).setCell ⟨L, 20, none⟩ (Value.slice (Option.map (fun x => { block := x.block, off := x.off + 4 }) ad) (n - 1) (cap - 1))).setCell ⟨L, 21, none⟩ (.int .i64 (md (s.seq + 1)))).setCell ⟨L, 23, none⟩ (.int .i64 0)).setCell ⟨L, 24, none⟩ (.int .i64 0)) = W5 := ⟨_, rfl⟩
      have U35 : Upd (fun k => k = L) W3 W5 := by rw [← hW5]; exact Upd.drew (Upd.setCell (X := fun k => k = L) (Upd.setCell (X := fun k => k = L) (Upd.setCell (X := fun k => k = L) (Upd.setCell (X := fun k => k = L) (Upd.setCell (X := fun k => k = L) (Upd.refl (fun k => k = L) W3) (.inl rfl) _) (.inl rfl) _) (.inl rfl) _) (.inl rfl) _) (.inl rfl) _)
      have b5 : W5.heap[L]? = some (.cells (linkCells (s.first a now) (Value.slice (Option.map (fun x => { block := x.block, off := x.off + 4 }) ad) (n - 1) (cap - 1))) 55 (0, 0)) := by rw [← hW5, first_yes HPOP.out HH.out]; exact at_drew (at_same (at_same (at_same (at_same (at_same H3.out.blk _) _) _) _) _)
      have q5 : QV W5 lo (Value.slice (Option.map (fun x => { block := x.block, off := x.off + 4 }) ad) (n - 1) (cap - 1)) (s.first a now).q := by rw [first_yes HPOP.out HH.out]; exact QV.upd (QV.pop (by have := H3.out.que; rw [HV.out, HN.out] at this; exact this) hq).1 U35 (fun k hk => HV3.out k (by cases ad <;> first | exact hk | simp [Value.ownBlock] at hk))
      have HO5 := Lib.hid (p := (Value.slice (Option.map (fun x => { block := x.block, off := x.off + 4 }) ad) (n - 1) (cap - 1)).ownBlock = v.ownBlock) (by rw [HV.out]; cases ad <;> rfl)
      rw [hW5]
      obtain ⟨v1, hv1⟩ : ∃ v1, Value.slice (Option.map (fun x => { block := x.block, off := x.off + 4 }) ad) (n - 1) (cap - 1) = v1 := ⟨_, rfl⟩
      rw [hv1] at b5 q5 HO5
      have HB5 := Lib.hid b5
      have HQ5 := Lib.hid q5
      have HU35 := Lib.hid U35
      clear hW5 b5 q5 U35 hv1 c20 c21 c23 c24 c26 fL p3 hl hmx
      clear ha hq hc1
      have hP5 := at_upd HU35.out HP3.out (by omega)
      have hR5 := at_upd HU35.out HR3.out (by omega)
      have c22 : W5.cell? ⟨L, 22, none⟩ = some (.int .i64 s.ack) := at_cell HB5.out (by rw [← first_ack s a now]; rfl)
      have c25 : W5.cell? ⟨L, 25, none⟩ = some (.bool (s.first a now).ans) := at_cell HB5.out rfl
      have fL := at_free HB5.out
      have p2 : W5.cell? ⟨Pb, 2, none⟩ = some (.int .i64 q) := at_cell hP5 rfl
      have p4 : W5.cell? ⟨Pb, 4, none⟩ = some (.bool has) := at_cell hP5 rfl
      have p5 : W5.cell? ⟨Pb, 5, none⟩ = some (.int .i64 m.k) := at_cell hP5 rfl
      have p6 : W5.cell? ⟨Pb, 6, none⟩ = some (.int .i64 m.a) := at_cell hP5 rfl
      have p7 : W5.cell? ⟨Pb, 7, none⟩ = some (.int .i64 m.b) := at_cell hP5 rfl
      have p8 : W5.cell? ⟨Pb, 8, none⟩ = some (.int .i64 m.c) := at_cell hP5 rfl
      have r0 : W5.cell? ⟨Rb, 0, none⟩ = some (.int .i64 0) := at_cell hR5 rfl
      have r1 : W5.cell? ⟨Rb, 1, none⟩ = some (.int .i64 0) := at_cell hR5 rfl
      have r2 : W5.cell? ⟨Rb, 2, none⟩ = some (.int .i64 0) := at_cell hR5 rfl
      have r3 : W5.cell? ⟨Rb, 3, none⟩ = some (.int .i64 0) := at_cell hR5 rfl
      have fR := at_free hR5
      have HP5 := Lib.hid hP5
      have HR5 := Lib.hid hR5
      clear hP5 hR5
      have hLR : L < Rb := by omega
      have hvW : ∀ k, v.ownBlock = some k → k < W.heap.size := fun k hk => (H.out.que.lt k hk).2
      have hRW : W.heap.size ≤ Rb := by have := HRb.out; omega
      have hLW : L < W.heap.size := by have := HPb.out; omega
      have UW5 : Upd (fun k => k = L) W W5 := (U3.mono (fun _ h => h.elim)).trans HU35.out
      cases has
      · have hrec : s.recv q a false m now = (s.first a now, Mg.zero, false) := rfl
        have HREC := Lib.hid hrec
        clear hrec
        go_quiet (fail)
        go_wp2
        rw [HREC.out]
        exact bodyPost_ret (results_cell_tmp Try.results10 _ _ Rb 36 _ (0, 0) _ (.bool false) rfl rfl (at_fill (w := W5.drewN nq) HR5.out Mg.zero.cells rfl) Try.underlying36 rfl (by kernel_rfl)) rfl
          (recv_end (UW5.drewN nq) HB5.out (HQ5.out.upd ((Upd.refl (fun _ => False) W5).drewN nq) (fun _ _ h => h)) HO5.out hvW hRW hLW Mg.zero false rfl)
      · cases hnew : decide (0 < nr s.ack q)
        · have HNEW := Lib.hid hnew
          clear hnew
          go_quiet ((go_at_call 20; exact Calls.quiet_of_same (cal1 (newer_is _ _ _ HNEW.out _))))
          go_wp2_with fail
          obtain ⟨nq1, rfl⟩ : ∃ x, x = nq := ⟨nq, rfl⟩
          cases hqa : (q != s.ack)
          · have hrec : s.recv q a true m now = ({ s.first a now with ans := true, ack := md (s.ack + 1) }, m, true) := by
              unfold LS.recv; rw [if_neg (by simp), if_neg (by rw [HNEW.out]; simp), if_neg (by rw [hqa]; simp)]
            have HREC := Lib.hid hrec
            clear hrec
            go_quiet (fail)
            go_wp2_with (go_at_call 19; refine (next_any _ _).mono ?_; rintro e w' ⟨rfl, rfl⟩)
            rw [HREC.out]
            have V6 : Upd (fun k => k = L) W5 ((((W5.drewN nq1).setCell ⟨L, 25, none⟩ (.bool true)).drewN nq).setCell ⟨L, 22, none⟩ (.int .i64 (md (s.ack + 1)))) :=
              Upd.setCell (X := fun k => k = L) ((Upd.setCell (X := fun k => k = L) ((Upd.refl _ W5).drewN nq1) (.inl rfl) _).drewN nq) (.inl rfl) _
            have b5 : ((W5.drewN nq1).setCell ⟨L, 25, none⟩ (.bool true)).heap[L]? = some (.cells (linkCells { s.first a now with ans := true } v1) 55 (0, 0)) := at_same (w := W5.drewN nq1) (o := 25) HB5.out (.bool true)
            have b6 : ((((W5.drewN nq1).setCell ⟨L, 25, none⟩ (.bool true)).drewN nq).setCell ⟨L, 22, none⟩ (.int .i64 (md (s.ack + 1)))).heap[L]? = some (.cells (linkCells { s.first a now with ans := true, ack := md (s.ack + 1) } v1) 55 (0, 0)) :=
              at_same (w := ((W5.drewN nq1).setCell ⟨L, 25, none⟩ (.bool true)).drewN nq) (o := 22) b5 _
            have hv1 : ∀ k, v1.ownBlock = some k → ¬ k = L := by rw [HO5.out]; exact hv
            exact bodyPost_ret (results_cell_tmp Try.results10 _ _ Rb 36 _ (0, 0) _ (.bool true) rfl rfl (at_fill (at_upd V6 HR5.out (by omega)) m.cells rfl) Try.underlying36 rfl (by kernel_rfl)) rfl
              (recv_end (s1 := { s.first a now with ans := true, ack := md (s.ack + 1) }) (UW5.trans V6) b6 (HQ5.out.upd V6 hv1) HO5.out hvW hRW hLW m true rfl)
          · have hrec : s.recv q a true m now = ({ s.first a now with ans := true }, Mg.zero, false) := by
              unfold LS.recv; rw [if_neg (by simp), if_neg (by rw [HNEW.out]; simp), if_pos hqa]
            have HREC := Lib.hid hrec
            clear hrec
            go_quiet (fail)
            go_wp2
            rw [HREC.out]
            have V6 : Upd (fun k => k = L) W5 (((W5.drewN nq1).setCell ⟨L, 25, none⟩ (.bool true)).drewN nq) :=
              (Upd.setCell (X := fun k => k = L) ((Upd.refl _ W5).drewN nq1) (.inl rfl) _).drewN nq
            have b6 : (((W5.drewN nq1).setCell ⟨L, 25, none⟩ (.bool true)).drewN nq).heap[L]? = some (.cells (linkCells { s.first a now with ans := true } v1) 55 (0, 0)) := at_same (w := W5.drewN nq1) (o := 25) HB5.out (.bool true)
            have hv1 : ∀ k, v1.ownBlock = some k → ¬ k = L := by rw [HO5.out]; exact hv
            exact bodyPost_ret (results_cell_tmp Try.results10 _ _ Rb 36 _ (0, 0) _ (.bool false) rfl rfl (at_fill (at_upd V6 HR5.out (by omega)) Mg.zero.cells rfl) Try.underlying36 rfl (by kernel_rfl)) rfl
              (recv_end (s1 := { s.first a now with ans := true }) (UW5.trans V6) b6 (HQ5.out.upd V6 hv1) HO5.out hvW hRW hLW Mg.zero false rfl)
        · have hrec : s.recv q a true m now = (s.first a now, Mg.zero, false) := by
            unfold LS.recv; rw [if_neg (by simp), if_pos hnew]
          have HREC := Lib.hid hrec
          have HNEW := Lib.hid hnew
          clear hrec hnew
          go_quiet ((go_at_call 20; exact Calls.quiet_of_same (cal1 (newer_is _ _ _ HNEW.out _))))
          go_wp2
          rw [HREC.out]
          exact bodyPost_ret (results_cell_tmp Try.results10 _ _ Rb 36 _ (0, 0) _ (.bool false) rfl rfl (at_fill (w := W5.drewN nq) HR5.out Mg.zero.cells rfl) Try.underlying36 rfl (by kernel_rfl)) rfl
            (recv_end (UW5.drewN nq) HB5.out (HQ5.out.upd ((Upd.refl (fun _ => False) W5).drewN nq) (fun _ _ h => h)) HO5.out hvW hRW hLW Mg.zero false rfl)
  · have ha : (decide (0 < n) && (a == md (s.seq + 1))) = false := by
      have := HN.out
      rw [← this]; simpa [LS.pops] using hpop
    have HPOP := Lib.hid hpop
    clear hpop
    by_cases hq : 0 < n
    · have ha2 : (a == md (s.seq + 1)) = false := by simpa [hq] using ha
      clear ha
      go_wp2_with (go_at_call 19; refine (next_any _ _).mono ?_; rintro e w' ⟨rfl, rfl⟩)
      obtain ⟨W5, hW5⟩ : ∃ W5, World.drew (W3.setCell ⟨L, 26, none⟩ (.int .i64 hd1)) = W5 := ⟨_, rfl⟩
      have U35 : Upd (fun k => k = L) W3 W5 := by rw [← hW5]; exact Upd.drew (Upd.setCell (X := fun k => k = L) (Upd.refl (fun k => k = L) W3) (.inl rfl) _)
      have b5 : W5.heap[L]? = some (.cells (linkCells (s.first a now) v) 55 (0, 0)) := by rw [← hW5, first_no HPOP.out HH.out]; exact at_drew (at_same H3.out.blk _)
      have q5 : QV W5 lo v (s.first a now).q := by rw [first_no HPOP.out HH.out]; exact QV.upd H3.out.que U35 hv
      rw [hW5]
      obtain ⟨v1, hv1⟩ : ∃ v1, v = v1 := ⟨_, rfl⟩
      have HO5 := Lib.hid (p := v1.ownBlock = v.ownBlock) (by rw [hv1])
      rw [hv1] at b5 q5
      have HB5 := Lib.hid b5
      have HQ5 := Lib.hid q5
      have HU35 := Lib.hid U35
      clear hW5 b5 q5 U35 hv1 c20 c21 c23 c24 c26 fL p3 hl hmx
      clear ha2 hq
      have hP5 := at_upd HU35.out HP3.out (by omega)
      have hR5 := at_upd HU35.out HR3.out (by omega)
      have c22 : W5.cell? ⟨L, 22, none⟩ = some (.int .i64 s.ack) := at_cell HB5.out (by rw [← first_ack s a now]; rfl)
      have c25 : W5.cell? ⟨L, 25, none⟩ = some (.bool (s.first a now).ans) := at_cell HB5.out rfl
      have fL := at_free HB5.out
      have p2 : W5.cell? ⟨Pb, 2, none⟩ = some (.int .i64 q) := at_cell hP5 rfl
      have p4 : W5.cell? ⟨Pb, 4, none⟩ = some (.bool has) := at_cell hP5 rfl
      have p5 : W5.cell? ⟨Pb, 5, none⟩ = some (.int .i64 m.k) := at_cell hP5 rfl
      have p6 : W5.cell? ⟨Pb, 6, none⟩ = some (.int .i64 m.a) := at_cell hP5 rfl
      have p7 : W5.cell? ⟨Pb, 7, none⟩ = some (.int .i64 m.b) := at_cell hP5 rfl
      have p8 : W5.cell? ⟨Pb, 8, none⟩ = some (.int .i64 m.c) := at_cell hP5 rfl
      have r0 : W5.cell? ⟨Rb, 0, none⟩ = some (.int .i64 0) := at_cell hR5 rfl
      have r1 : W5.cell? ⟨Rb, 1, none⟩ = some (.int .i64 0) := at_cell hR5 rfl
      have r2 : W5.cell? ⟨Rb, 2, none⟩ = some (.int .i64 0) := at_cell hR5 rfl
      have r3 : W5.cell? ⟨Rb, 3, none⟩ = some (.int .i64 0) := at_cell hR5 rfl
      have fR := at_free hR5
      have HP5 := Lib.hid hP5
      have HR5 := Lib.hid hR5
      clear hP5 hR5
      have hLR : L < Rb := by omega
      have hvW : ∀ k, v.ownBlock = some k → k < W.heap.size := fun k hk => (H.out.que.lt k hk).2
      have hRW : W.heap.size ≤ Rb := by have := HRb.out; omega
      have hLW : L < W.heap.size := by have := HPb.out; omega
      have UW5 : Upd (fun k => k = L) W W5 := (U3.mono (fun _ h => h.elim)).trans HU35.out
      cases has
      · have hrec : s.recv q a false m now = (s.first a now, Mg.zero, false) := rfl
        have HREC := Lib.hid hrec
        clear hrec
        go_quiet (fail)
        go_wp2
        rw [HREC.out]
        exact bodyPost_ret (results_cell_tmp Try.results10 _ _ Rb 36 _ (0, 0) _ (.bool false) rfl rfl (at_fill (w := W5.drewN nq) HR5.out Mg.zero.cells rfl) Try.underlying36 rfl (by kernel_rfl)) rfl
          (recv_end (UW5.drewN nq) HB5.out (HQ5.out.upd ((Upd.refl (fun _ => False) W5).drewN nq) (fun _ _ h => h)) HO5.out hvW hRW hLW Mg.zero false rfl)
      · cases hnew : decide (0 < nr s.ack q)
        · have HNEW := Lib.hid hnew
          clear hnew
          go_quiet ((go_at_call 20; exact Calls.quiet_of_same (cal1 (newer_is _ _ _ HNEW.out _))))
          go_wp2_with fail
          obtain ⟨nq1, rfl⟩ : ∃ x, x = nq := ⟨nq, rfl⟩
          cases hqa : (q != s.ack)
          · have hrec : s.recv q a true m now = ({ s.first a now with ans := true, ack := md (s.ack + 1) }, m, true) := by
              unfold LS.recv; rw [if_neg (by simp), if_neg (by rw [HNEW.out]; simp), if_neg (by rw [hqa]; simp)]
            have HREC := Lib.hid hrec
            clear hrec
            go_quiet (fail)
            go_wp2_with (go_at_call 19; refine (next_any _ _).mono ?_; rintro e w' ⟨rfl, rfl⟩)
            rw [HREC.out]
            have V6 : Upd (fun k => k = L) W5 ((((W5.drewN nq1).setCell ⟨L, 25, none⟩ (.bool true)).drewN nq).setCell ⟨L, 22, none⟩ (.int .i64 (md (s.ack + 1)))) :=
              Upd.setCell (X := fun k => k = L) ((Upd.setCell (X := fun k => k = L) ((Upd.refl _ W5).drewN nq1) (.inl rfl) _).drewN nq) (.inl rfl) _
            have b5 : ((W5.drewN nq1).setCell ⟨L, 25, none⟩ (.bool true)).heap[L]? = some (.cells (linkCells { s.first a now with ans := true } v1) 55 (0, 0)) := at_same (w := W5.drewN nq1) (o := 25) HB5.out (.bool true)
            have b6 : ((((W5.drewN nq1).setCell ⟨L, 25, none⟩ (.bool true)).drewN nq).setCell ⟨L, 22, none⟩ (.int .i64 (md (s.ack + 1)))).heap[L]? = some (.cells (linkCells { s.first a now with ans := true, ack := md (s.ack + 1) } v1) 55 (0, 0)) :=
              at_same (w := ((W5.drewN nq1).setCell ⟨L, 25, none⟩ (.bool true)).drewN nq) (o := 22) b5 _
            have hv1 : ∀ k, v1.ownBlock = some k → ¬ k = L := by rw [HO5.out]; exact hv
            exact bodyPost_ret (results_cell_tmp Try.results10 _ _ Rb 36 _ (0, 0) _ (.bool true) rfl rfl (at_fill (at_upd V6 HR5.out (by omega)) m.cells rfl) Try.underlying36 rfl (by kernel_rfl)) rfl
              (recv_end (s1 := { s.first a now with ans := true, ack := md (s.ack + 1) }) (UW5.trans V6) b6 (HQ5.out.upd V6 hv1) HO5.out hvW hRW hLW m true rfl)
          · have hrec : s.recv q a true m now = ({ s.first a now with ans := true }, Mg.zero, false) := by
              unfold LS.recv; rw [if_neg (by simp), if_neg (by rw [HNEW.out]; simp), if_pos hqa]
            have HREC := Lib.hid hrec
            clear hrec
            go_quiet (fail)
            go_wp2
            rw [HREC.out]
            have V6 : Upd (fun k => k = L) W5 (((W5.drewN nq1).setCell ⟨L, 25, none⟩ (.bool true)).drewN nq) :=
              (Upd.setCell (X := fun k => k = L) ((Upd.refl _ W5).drewN nq1) (.inl rfl) _).drewN nq
            have b6 : (((W5.drewN nq1).setCell ⟨L, 25, none⟩ (.bool true)).drewN nq).heap[L]? = some (.cells (linkCells { s.first a now with ans := true } v1) 55 (0, 0)) := at_same (w := W5.drewN nq1) (o := 25) HB5.out (.bool true)
            have hv1 : ∀ k, v1.ownBlock = some k → ¬ k = L := by rw [HO5.out]; exact hv
            exact bodyPost_ret (results_cell_tmp Try.results10 _ _ Rb 36 _ (0, 0) _ (.bool false) rfl rfl (at_fill (at_upd V6 HR5.out (by omega)) Mg.zero.cells rfl) Try.underlying36 rfl (by kernel_rfl)) rfl
              (recv_end (s1 := { s.first a now with ans := true }) (UW5.trans V6) b6 (HQ5.out.upd V6 hv1) HO5.out hvW hRW hLW Mg.zero false rfl)
        · have hrec : s.recv q a true m now = (s.first a now, Mg.zero, false) := by
            unfold LS.recv; rw [if_neg (by simp), if_pos hnew]
          have HREC := Lib.hid hrec
          have HNEW := Lib.hid hnew
          clear hrec hnew
          go_quiet ((go_at_call 20; exact Calls.quiet_of_same (cal1 (newer_is _ _ _ HNEW.out _))))
          go_wp2
          rw [HREC.out]
          exact bodyPost_ret (results_cell_tmp Try.results10 _ _ Rb 36 _ (0, 0) _ (.bool false) rfl rfl (at_fill (w := W5.drewN nq) HR5.out Mg.zero.cells rfl) Try.underlying36 rfl (by kernel_rfl)) rfl
            (recv_end (UW5.drewN nq) HB5.out (HQ5.out.upd ((Upd.refl (fun _ => False) W5).drewN nq) (fun _ _ h => h)) HO5.out hvW hRW hLW Mg.zero false rfl)
    · obtain rfl : n = 0 := by omega
      clear ha hq
      go_wp2_with (go_at_call 19; refine (next_any _ _).mono ?_; rintro e w' ⟨rfl, rfl⟩)
      obtain ⟨W5, hW5⟩ : ∃ W5, World.drew (W3.setCell ⟨L, 26, none⟩ (.int .i64 hd1)) = W5 := ⟨_, rfl⟩
      have U35 : Upd (fun k => k = L) W3 W5 := by rw [← hW5]; exact Upd.drew (Upd.setCell (X := fun k => k = L) (Upd.refl (fun k => k = L) W3) (.inl rfl) _)
      have b5 : W5.heap[L]? = some (.cells (linkCells (s.first a now) v) 55 (0, 0)) := by rw [← hW5, first_no HPOP.out HH.out]; exact at_drew (at_same H3.out.blk _)
      have q5 : QV W5 lo v (s.first a now).q := by rw [first_no HPOP.out HH.out]; exact QV.upd H3.out.que U35 hv
      rw [hW5]
      obtain ⟨v1, hv1⟩ : ∃ v1, v = v1 := ⟨_, rfl⟩
      have HO5 := Lib.hid (p := v1.ownBlock = v.ownBlock) (by rw [hv1])
      rw [hv1] at b5 q5
      have HB5 := Lib.hid b5
      have HQ5 := Lib.hid q5
      have HU35 := Lib.hid U35
      clear hW5 b5 q5 U35 hv1 c20 c21 c23 c24 c26 fL p3 hl hmx
      have hP5 := at_upd HU35.out HP3.out (by omega)
      have hR5 := at_upd HU35.out HR3.out (by omega)
      have c22 : W5.cell? ⟨L, 22, none⟩ = some (.int .i64 s.ack) := at_cell HB5.out (by rw [← first_ack s a now]; rfl)
      have c25 : W5.cell? ⟨L, 25, none⟩ = some (.bool (s.first a now).ans) := at_cell HB5.out rfl
      have fL := at_free HB5.out
      have p2 : W5.cell? ⟨Pb, 2, none⟩ = some (.int .i64 q) := at_cell hP5 rfl
      have p4 : W5.cell? ⟨Pb, 4, none⟩ = some (.bool has) := at_cell hP5 rfl
      have p5 : W5.cell? ⟨Pb, 5, none⟩ = some (.int .i64 m.k) := at_cell hP5 rfl
      have p6 : W5.cell? ⟨Pb, 6, none⟩ = some (.int .i64 m.a) := at_cell hP5 rfl
      have p7 : W5.cell? ⟨Pb, 7, none⟩ = some (.int .i64 m.b) := at_cell hP5 rfl
      have p8 : W5.cell? ⟨Pb, 8, none⟩ = some (.int .i64 m.c) := at_cell hP5 rfl
      have r0 : W5.cell? ⟨Rb, 0, none⟩ = some (.int .i64 0) := at_cell hR5 rfl
      have r1 : W5.cell? ⟨Rb, 1, none⟩ = some (.int .i64 0) := at_cell hR5 rfl
      have r2 : W5.cell? ⟨Rb, 2, none⟩ = some (.int .i64 0) := at_cell hR5 rfl
      have r3 : W5.cell? ⟨Rb, 3, none⟩ = some (.int .i64 0) := at_cell hR5 rfl
      have fR := at_free hR5
      have HP5 := Lib.hid hP5
      have HR5 := Lib.hid hR5
      clear hP5 hR5
      have hLR : L < Rb := by omega
      have hvW : ∀ k, v.ownBlock = some k → k < W.heap.size := fun k hk => (H.out.que.lt k hk).2
      have hRW : W.heap.size ≤ Rb := by have := HRb.out; omega
      have hLW : L < W.heap.size := by have := HPb.out; omega
      have UW5 : Upd (fun k => k = L) W W5 := (U3.mono (fun _ h => h.elim)).trans HU35.out
      cases has
      · have hrec : s.recv q a false m now = (s.first a now, Mg.zero, false) := rfl
        have HREC := Lib.hid hrec
        clear hrec
        go_quiet (fail)
        go_wp2
        rw [HREC.out]
        exact bodyPost_ret (results_cell_tmp Try.results10 _ _ Rb 36 _ (0, 0) _ (.bool false) rfl rfl (at_fill (w := W5.drewN nq) HR5.out Mg.zero.cells rfl) Try.underlying36 rfl (by kernel_rfl)) rfl
          (recv_end (UW5.drewN nq) HB5.out (HQ5.out.upd ((Upd.refl (fun _ => False) W5).drewN nq) (fun _ _ h => h)) HO5.out hvW hRW hLW Mg.zero false rfl)
      · cases hnew : decide (0 < nr s.ack q)
        · have HNEW := Lib.hid hnew
          clear hnew
          go_quiet ((go_at_call 20; exact Calls.quiet_of_same (cal1 (newer_is _ _ _ HNEW.out _))))
          go_wp2_with fail
          obtain ⟨nq1, rfl⟩ : ∃ x, x = nq := ⟨nq, rfl⟩
          cases hqa : (q != s.ack)
          · have hrec : s.recv q a true m now = ({ s.first a now with ans := true, ack := md (s.ack + 1) }, m, true) := by
              unfold LS.recv; rw [if_neg (by simp), if_neg (by rw [HNEW.out]; simp), if_neg (by rw [hqa]; simp)]
            have HREC := Lib.hid hrec
            clear hrec
            go_quiet (fail)
            go_wp2_with (go_at_call 19; refine (next_any _ _).mono ?_; rintro e w' ⟨rfl, rfl⟩)
            rw [HREC.out]
            have V6 : Upd (fun k => k = L) W5 ((((W5.drewN nq1).setCell ⟨L, 25, none⟩ (.bool true)).drewN nq).setCell ⟨L, 22, none⟩ (.int .i64 (md (s.ack + 1)))) :=
              Upd.setCell (X := fun k => k = L) ((Upd.setCell (X := fun k => k = L) ((Upd.refl _ W5).drewN nq1) (.inl rfl) _).drewN nq) (.inl rfl) _
            have b5 : ((W5.drewN nq1).setCell ⟨L, 25, none⟩ (.bool true)).heap[L]? = some (.cells (linkCells { s.first a now with ans := true } v1) 55 (0, 0)) := at_same (w := W5.drewN nq1) (o := 25) HB5.out (.bool true)
            have b6 : ((((W5.drewN nq1).setCell ⟨L, 25, none⟩ (.bool true)).drewN nq).setCell ⟨L, 22, none⟩ (.int .i64 (md (s.ack + 1)))).heap[L]? = some (.cells (linkCells { s.first a now with ans := true, ack := md (s.ack + 1) } v1) 55 (0, 0)) :=
              at_same (w := ((W5.drewN nq1).setCell ⟨L, 25, none⟩ (.bool true)).drewN nq) (o := 22) b5 _
            have hv1 : ∀ k, v1.ownBlock = some k → ¬ k = L := by rw [HO5.out]; exact hv
            exact bodyPost_ret (results_cell_tmp Try.results10 _ _ Rb 36 _ (0, 0) _ (.bool true) rfl rfl (at_fill (at_upd V6 HR5.out (by omega)) m.cells rfl) Try.underlying36 rfl (by kernel_rfl)) rfl
              (recv_end (s1 := { s.first a now with ans := true, ack := md (s.ack + 1) }) (UW5.trans V6) b6 (HQ5.out.upd V6 hv1) HO5.out hvW hRW hLW m true rfl)
          · have hrec : s.recv q a true m now = ({ s.first a now with ans := true }, Mg.zero, false) := by
              unfold LS.recv; rw [if_neg (by simp), if_neg (by rw [HNEW.out]; simp), if_pos hqa]
            have HREC := Lib.hid hrec
            clear hrec
            go_quiet (fail)
            go_wp2
            rw [HREC.out]
            have V6 : Upd (fun k => k = L) W5 (((W5.drewN nq1).setCell ⟨L, 25, none⟩ (.bool true)).drewN nq) :=
              (Upd.setCell (X := fun k => k = L) ((Upd.refl _ W5).drewN nq1) (.inl rfl) _).drewN nq
            have b6 : (((W5.drewN nq1).setCell ⟨L, 25, none⟩ (.bool true)).drewN nq).heap[L]? = some (.cells (linkCells { s.first a now with ans := true } v1) 55 (0, 0)) := at_same (w := W5.drewN nq1) (o := 25) HB5.out (.bool true)
            have hv1 : ∀ k, v1.ownBlock = some k → ¬ k = L := by rw [HO5.out]; exact hv
            exact bodyPost_ret (results_cell_tmp Try.results10 _ _ Rb 36 _ (0, 0) _ (.bool false) rfl rfl (at_fill (at_upd V6 HR5.out (by omega)) Mg.zero.cells rfl) Try.underlying36 rfl (by kernel_rfl)) rfl
              (recv_end (s1 := { s.first a now with ans := true }) (UW5.trans V6) b6 (HQ5.out.upd V6 hv1) HO5.out hvW hRW hLW Mg.zero false rfl)
        · have hrec : s.recv q a true m now = (s.first a now, Mg.zero, false) := by
            unfold LS.recv; rw [if_neg (by simp), if_pos hnew]
          have HREC := Lib.hid hrec
          have HNEW := Lib.hid hnew
          clear hrec hnew
          go_quiet ((go_at_call 20; exact Calls.quiet_of_same (cal1 (newer_is _ _ _ HNEW.out _))))
          go_wp2
          rw [HREC.out]
          exact bodyPost_ret (results_cell_tmp Try.results10 _ _ Rb 36 _ (0, 0) _ (.bool false) rfl rfl (at_fill (w := W5.drewN nq) HR5.out Mg.zero.cells rfl) Try.underlying36 rfl (by kernel_rfl)) rfl
            (recv_end (UW5.drewN nq) HB5.out (HQ5.out.upd ((Upd.refl (fun _ => False) W5).drewN nq) (fun _ _ h => h)) HO5.out hvW hRW hLW Mg.zero false rfl)
end Go.Proofs.Ytbbacdaenpildaa.X

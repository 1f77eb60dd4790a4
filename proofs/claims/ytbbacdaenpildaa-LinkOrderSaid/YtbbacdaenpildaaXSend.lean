/- (*Link).Send: where fewer than four messages wait the message waits as the last one, and true; else false, and nothing changes. For every link that lies as 'LinkIs' says, its queue's block being another one. -/
import Derived.Test.YtbbacdaenpildaaXBase
import Derived.Test.YtbbacdaenpildaaXLink
import Derived.BigQuiet
import Derived.Deep.QuietTactic
import Derived.Deep.RegionLaw
import Derived.Deep.RegionLawGrows
import Derived.Deep.AppendLies
namespace Go.Proofs.Ytbbacdaenpildaa.X
open Go.RowKit Go.Proofs.Ytbbacdaenpildaa.XTick

theorem Try.info36 : (Try.prog.info? 36).map (fun i => (i.zero, i.size, i.bytes)) = some (some (.agg #[.int .i64 0, .int .i64 0, .int .i64 0, .int .i64 0]), 4, 32) := by kernel_rfl

theorem mg_one (m : Mg) : ∀ u ∈ m.cells, u.oneCell' = true := by
  intro u hu
  simp [Mg.cells] at hu
  rcases hu with rfl | rfl | rfl | rfl <;> rfl

/-- The append of one message to a queue, as one step of a region that draws its order: with room or without. -/
theorem step_push {ops : Array Oper} {o : Oper} {a : Act} {w : World} {K : Act → World → Prop} {Q : Exit → Act → World → Prop} {E : Prop} (hgd : o.guard = none) (s x : Operand)
    (ho : o.op = .call { callee := .builtin .append, args := #[s, x], argTypes := #[53, 53] }) (lo : Nat) (v : Value) (q : List Mg) (hs : a.eval s = v) (hQ : QV w lo v q) (hlo : lo ≤ w.heap.size) (hq : q.length < 4)
    (ad : Addr) (m : Mg) (hx : a.eval x = .slice (some ad) 1 1) (hc : ∀ j u, m.cells[j]? = some u → w.cell? (ad.add j) = some u)
    (hK : ∀ v' w', QV w' lo v' (q ++ [m]) → Upd (fun k => some k = v.ownBlock) w w' → (v'.ownBlock = v.ownBlock ∨ ∃ g, v'.ownBlock = some g ∧ w.heap.size ≤ g) → (∃ ad cap, v' = .slice (some ad) (q.length + 1) cap) → K (a.put o.dst v') w') :
    if Region.wanted o (yielded ops a.tmps) = true then Oper.wp Try.prog o a w K Q else E := by
  obtain ⟨i0, hi, hz0, hz1, hz2⟩ := info_parts Try.info36
  -- what a new row gives
  have fresh : ∀ (olds : List Value) (v' : Value) (w' : World), olds = qcells q → w'.ownsRow w.heap.size 36 4 v' (q.length + 1) (olds ++ m.cells) → w.grownBy w' none → K (a.put o.dst v') w' := by
    intro olds v' w' ho' hr hg
    subst ho'
    have hlen := hr.1
    rcases hr.2 with ⟨_, h0⟩ | ⟨g, cap, cur, rfl, hb, hh, hcap, hmax, hsz, htk⟩
    · omega
    · refine hK _ _ (.inr ⟨g, 0, cap, cur, by simp, by omega, hh, by simpa using hcap, hmax, by omega, fun j u hu => ?_⟩)
        ⟨hg.os, hg.tape, hg.output, hg.size, fun k hk _ => hg.block k hk (by simp)⟩ (.inr ⟨g, rfl, hb⟩) ⟨_, _, rfl⟩
      rw [qcells_append, show qcells [m] = m.cells by simp [qcells], ← htk, List.getElem?_take] at hu
      split at hu
      · simpa using hu
      · cases hu
  rcases hQ with ⟨rfl, rfl⟩ | ⟨g, off, cap, cur, rfl, hb, hh, hcap, hmax, hsz, hcells⟩
  · refine step_append_grows hgd s x 53 ho 36 i0 (.agg #[.int .i64 0, .int .i64 0, .int .i64 0, .int .i64 0]) 4 32 Try.underlying53 hi hz0 hz1 hz2 rfl (by decide) none 0 0 [] hs (fun _ => ⟨rfl, rfl⟩) rfl (by intro _ _ _ _ h; simp at h) ad 1 1 m.cells hx rfl hc (mg_one m) (by omega) (by unfold maxLen; omega) (by omega) ?_
    intro v' w' hr hg
    exact fresh [] v' w' rfl (by simpa using hr) hg
  · by_cases hroom : q.length < cap
    · obtain ⟨cur', h1, h2, h3, h4⟩ := at_setCells g 36 (0, 0) m.cells w cur (off + q.length * 4) hh
      refine step_append_room hgd s x 53 ho 36 i0 4 Try.underlying53 hi hz1 g off q.length cap hs ad 1 1 m.cells hx rfl hc (mg_one m) (by omega) (fun j hj => ?_) ?_
      · have hj4 : j < 4 := by simpa [Mg.cells] using hj
        refine ⟨?_, at_free hh _⟩
        rw [cell_of_row w g _ cur 36 (0, 0) hh]
        simp; omega
      · refine hK _ _ (.inr ⟨g, off, cap, cur', by simp, hb, h1, by simp; omega, hmax, by omega, fun j u hu => ?_⟩) (Upd.setCells (X := fun k => some k = (Value.slice (some ⟨g, off, none⟩) q.length cap).ownBlock) (.inl rfl) _ _ _ (Upd.refl _ _)) (.inl rfl) ⟨_, _, rfl⟩
        have hj := (List.getElem?_eq_some_iff.1 hu).1
        rw [qcells_length] at hj
        simp at hj
        rw [qcells_append, show qcells [m] = m.cells by simp [qcells], List.getElem?_append] at hu
        rw [qcells_length] at hu
        by_cases hlt : j < q.length * 4
        · rw [if_pos hlt] at hu
          rw [h3 (off + j) (by omega)]
          exact hcells j u hu
        · rw [if_neg hlt] at hu
          have := h4 (j - q.length * 4) (by simp [Mg.cells]; omega) (by omega)
          rw [show off + q.length * 4 + (j - q.length * 4) = off + j by omega] at this
          rw [this]; exact hu
    · refine step_append_grows hgd s x 53 ho 36 i0 (.agg #[.int .i64 0, .int .i64 0, .int .i64 0, .int .i64 0]) 4 32 Try.underlying53 hi hz0 hz1 hz2 rfl (by decide) (some ⟨g, off, none⟩) q.length cap (qcells q) hs (by intro h; cases h) (qcells_length q) (fun b hb' j u hu => ?_) ad 1 1 m.cells hx rfl hc (mg_one m) (by omega) (by unfold maxLen; omega) (by omega) ?_
      · cases hb'
        rw [Addr.add_lit, cell_of_row w g _ cur 36 (0, 0) hh]
        exact hcells j u hu
      · intro v' w' hr hg
        exact fresh _ v' w' rfl hr hg

theorem send_full (W : World) (L lo : Nat) (v : Value) (s : LS) (m : Mg) (h : LinkIs W L lo v s) (hq : 4 ≤ s.q.length) :
    Calls Try.prog 8 #[.pointer (some ⟨L, 0, none⟩), m.v] W fun e w' => e = .returned (.bool false) ∧ Upd (fun _ => False) W w' := by
  obtain ⟨ad, cap, rfl, hl, hm⟩ := h.que.shape
  have c20 : W.cell? ⟨L, 20, none⟩ = some (.slice ad s.q.length cap) := at_cell h.blk rfl
  have c17 : W.cell? ⟨L, 17, none⟩ = some (.int .i64 4) := at_cell h.blk rfl
  have hL := at_lt h.blk
  unfold maxLen at hm
  unfold Mg.v
  clear h
  generalize s.q.length = n at *
  go_enter Try.func8, Try.ntmps8
  go_wp2
  go_quiet (fail)
  go_wp2
  go_ret
  exact ⟨rfl, ((Upd.refl _ _).alloc _).drewN _⟩

/-- The state behind a Send that went through. -/
def LS.push (s : LS) (m : Mg) : LS := { s with q := s.q ++ [m] }

/-- What a Send that went through leaves. -/
def SendPost (W : World) (L lo : Nat) (v : Value) (s : LS) (m : Mg) (e : Ending) (w' : World) : Prop :=
  e = .returned (.bool true) ∧ ∃ v', LinkIs w' L lo v' (s.push m) ∧ Upd (fun k => k = L ∨ some k = v.ownBlock) W w' ∧ (v'.ownBlock = v.ownBlock ∨ ∃ g, v'.ownBlock = some g ∧ W.heap.size ≤ g)

set_option maxHeartbeats 1000000 in
theorem send_ok (W : World) (L lo : Nat) (v : Value) (s : LS) (m : Mg) (h : LinkIs W L lo v s) (hL : L < lo) (hlo : lo ≤ W.heap.size) (hq : s.q.length < 4) :
    Calls Try.prog 8 #[.pointer (some ⟨L, 0, none⟩), m.v] W (SendPost W L lo v s m) := by
  obtain ⟨ad, cap, hv, hl, hmx⟩ := h.que.shape
  have c20 : W.cell? ⟨L, 20, none⟩ = some (.slice ad s.q.length cap) := at_cell h.blk (by rw [hv]; rfl)
  have c17 : W.cell? ⟨L, 17, none⟩ = some (.int .i64 4) := at_cell h.blk rfl
  have hLW := at_lt h.blk
  unfold maxLen at hmx
  unfold Mg.v
  have HV := Lib.hid hv
  have HL := Lib.hid h
  obtain ⟨n, hn⟩ : ∃ n, s.q.length = n := ⟨_, rfl⟩
  rw [hn] at c20 hl hq
  have HN := Lib.hid hn
  clear hv h hn
  go_enter Try.func8, Try.ntmps8
  go_wp2
  go_quiet (fail)
  go_wp2_with (fail)
  obtain ⟨W2, hW2⟩ : ∃ W2, (W.alloc (.cells #[.int .i64 m.k, .int .i64 m.a, .int .i64 m.b, .int .i64 m.c] 36 (0, 0))).drewN nq = W2 := ⟨_, rfl⟩
  have U2 : Upd (fun _ => False) W W2 := by rw [← hW2]; exact ((Upd.refl _ _).alloc _).drewN _
  have hm2 : W2.heap[W.heap.size]? = some (.cells #[.int .i64 m.k, .int .i64 m.a, .int .i64 m.b, .int .i64 m.c] 36 (0, 0)) := by rw [← hW2]; exact heap_alloc_new _ _
  have hz2 : W.heap.size ≤ W2.heap.size := U2.size
  rw [hW2]
  clear hW2 c20 c17
  have hlk2 := HL.out.upd U2 (fun h => h) (fun _ _ h => h)
  obtain ⟨Bm, hBm⟩ : ∃ Bm, W.heap.size = Bm := ⟨_, rfl⟩
  rw [hBm] at hm2 hz2 hlo hLW
  rw [hBm]
  have c20 : W2.cell? ⟨L, 20, none⟩ = some (.slice ad n cap) := at_cell hlk2.blk (by rw [HV.out, HN.out]; rfl)
  have d0 : W2.cell? ⟨Bm, 0, none⟩ = some (.int .i64 m.k) := at_cell hm2 rfl
  have d1 : W2.cell? ⟨Bm, 1, none⟩ = some (.int .i64 m.a) := at_cell hm2 rfl
  have d2 : W2.cell? ⟨Bm, 2, none⟩ = some (.int .i64 m.b) := at_cell hm2 rfl
  have d3 : W2.cell? ⟨Bm, 3, none⟩ = some (.int .i64 m.c) := at_cell hm2 rfl
  have HK2 := Lib.hid hlk2
  have hL2 := at_lt hlk2.blk
  have HB := Lib.hid hBm
  clear hm2 hlk2 hBm
  have hLX : ¬ (some L = v.ownBlock) := fun e => by
    have := (HL.out.que.lt L e.symm).1
    omega
  go_region_law (refine step_push rfl (.tmp 26) (.tmp 28) rfl lo v s.q (by rw [HV.out, HN.out]; simp [Act.eval]) ((HK2.out.que.upd (Upd.alloc (Upd.refl (fun _ => False) W2) _) (fun _ _ h => h)).upd (Upd.drew (Upd.refl (fun _ => False) _)) (fun _ _ h => h)) (by simp; omega) (by rw [HN.out]; exact hq) ⟨W2.heap.size, 0, none⟩ m (by simp [Act.eval]) (World.news_of_block (heap_alloc_new _ _)) ?_; rintro v' w' hQ' hU' hB' ⟨ad', cap', rfl⟩; have hb' := at_upd hU' (at_drew (at_alloc HK2.out.blk _)) hLX; have c20' := at_cell hb' (o := 20) rfl; have f20' := at_free hb' 20; have hLw' := at_lt hb'; have Hb' := Lib.hid hb'; have HQ' := Lib.hid hQ'; have HU' := Lib.hid hU'; have HB' := Lib.hid hB'; clear hb' hQ' hU' hB' c20 d0 d1 d2 d3)
  all_goals
    go_wp2
    go_ret
    have hnL : ∀ k, (Value.slice (some ad') (s.q.length + 1) cap').ownBlock = some k → ¬ k = L := fun k hk e => by
      have := (QV.lt HQ'.out k hk).1
      omega
    refine ⟨rfl, _, ⟨at_same Hb'.out _, HQ'.out.upd (Upd.setCell (X := fun k => k = L) (Upd.refl _ _) (.inl rfl) _) hnL⟩, ?_, ?_⟩
    · exact (((((U2.mono (fun _ h => h.elim)).alloc _).drew).trans (HU'.out.mono (fun _ h => .inr h))).setCell (.inl (.inl rfl)) _)
    · rcases HB'.out with h | ⟨g, h1, h2⟩
      · exact .inl h
      · exact .inr ⟨g, h1, by have := HB.out; simp at h2; omega⟩
end Go.Proofs.Ytbbacdaenpildaa.X

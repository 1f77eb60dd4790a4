/- Two links beside each other: what a call of Send, Poll, Recv, Waits or Epoch at one of them answers and leaves, the other one being as it was. -/
import Derived.Test.YtbbacdaenpildaaXRecv
import Derived.Test.YtbbacdaenpildaaXSend
import Derived.Test.YtbbacdaenpildaaXNew
namespace Go.Proofs.Ytbbacdaenpildaa.X
open Go.RowKit Go.Proofs.Ytbbacdaenpildaa.XTick

/-- What a Poll does: the state behind it, the packet, and whether there is one. -/
def LS.poll (s : LS) (now : Int) : LS × Pk × Bool :=
  if s.ready now = true then (s.polled now, ⟨s.ses, s.ep, s.seq, s.ack, true, s.q.headD Mg.zero⟩, true)
  else if s.ans = true then ({ s with ans := false }, ⟨s.ses, s.ep, s.seq, s.ack, false, Mg.zero⟩, true)
  else (s, Pk.zero, false)

def PollPost (W : World) (L lo : Nat) (v : Value) (s1 : LS) (p : Pk) (ok : Bool) (e : Ending) (w' : World) : Prop :=
  e = .returned (.tuple #[p.v, .bool ok]) ∧ LinkIs w' L lo v s1 ∧ Upd (fun k => k = L) W w'

theorem poll_any (W : World) (L lo : Nat) (v : Value) (s : LS) (now : Int) (h : LinkIs W L lo v s) (hL' : L < lo) (hs : 0 ≤ s.sent ∧ s.sent ≤ 1099511627776) :
    Calls Try.prog 9 #[.pointer (some ⟨L, 0, none⟩), .int .i64 now] W (PollPost W L lo v (s.poll now).1 (s.poll now).2.1 (s.poll now).2.2) := by
  by_cases hr : s.ready now = true
  · have e : s.poll now = (s.polled now, ⟨s.ses, s.ep, s.seq, s.ack, true, s.q.headD Mg.zero⟩, true) := by unfold LS.poll; rw [if_pos hr]
    rw [e]
    cases hq : s.q with
    | nil => simp [LS.ready, hq] at hr
    | cons m rest => exact (poll_go W L lo v s m rest now h hL' hr hs hq).mono fun _ _ ⟨a, b, c⟩ => ⟨a, b, c⟩
  · have hr' : s.ready now = false := by simpa using hr
    by_cases ha : s.ans = true
    · have e : s.poll now = ({ s with ans := false }, ⟨s.ses, s.ep, s.seq, s.ack, false, Mg.zero⟩, true) := by unfold LS.poll; rw [if_neg hr, if_pos ha]
      rw [e]
      exact (poll_ans W L lo v s now h hL' hr' ha).mono fun _ _ ⟨a, b, c⟩ => ⟨a, b, c⟩
    · have e : s.poll now = (s, Pk.zero, false) := by unfold LS.poll; rw [if_neg hr, if_neg ha]
      rw [e]
      exact (poll_idle W L lo v s now h hr' (by simpa using ha)).mono fun _ _ ⟨a, b⟩ => ⟨a, h.upd b (fun h => h) (fun _ _ h => h), b.mono (fun _ h => h.elim)⟩

theorem epoch_any (W : World) (L lo : Nat) (v : Value) (s : LS) (h : LinkIs W L lo v s) :
    Calls Try.prog 14 #[.pointer (some ⟨L, 0, none⟩)] W fun e w' => e = .returned (.int .i64 s.ep) ∧ W = w' := by
  have c19 : W.cell? ⟨L, 19, none⟩ = some (.int .i64 s.ep) := at_cell h.blk rfl
  clear h
  go_enter Try.func14, Try.ntmps14
  go_wp2
  go_ret
  exact ⟨rfl, rfl⟩
theorem waits_any (W : World) (L lo : Nat) (v : Value) (s : LS) (h : LinkIs W L lo v s) :
    Calls Try.prog 11 #[.pointer (some ⟨L, 0, none⟩)] W fun e w' => e = .returned (.int .i64 s.q.length) ∧ W = w' := by
  obtain ⟨ad, cap, rfl, hl, hm⟩ := h.que.shape
  have c20 : W.cell? ⟨L, 20, none⟩ = some (.slice ad s.q.length cap) := at_cell h.blk rfl
  unfold maxLen at hm
  clear h
  go_enter Try.func11, Try.ntmps11
  go_wp2
  go_ret
  exact ⟨rfl, rfl⟩

/-- Two links, their queues in rows of their own. -/
structure Two (W : World) (lo La Lb : Nat) (va vb : Value) (sa sb : LS) : Prop where
  a : LinkIs W La lo va sa
  b : LinkIs W Lb lo vb sb
  sep : ∀ k, va.ownBlock = some k → vb.ownBlock = some k → False
  ne : La ≠ Lb
  la : La < lo
  lb : Lb < lo
  lo_le : lo ≤ W.heap.size
theorem Two.swap {W : World} {lo La Lb : Nat} {va vb : Value} {sa sb : LS} (h : Two W lo La Lb va vb sa sb) : Two W lo Lb La vb va sb sa :=
  ⟨h.b, h.a, fun k h1 h2 => h.sep k h2 h1, fun e => h.ne e.symm, h.lb, h.la, h.lo_le⟩
theorem Two.upd {X : Nat → Prop} {W W' : World} {lo La Lb : Nat} {va vb : Value} {sa sb : LS} (h : Two W lo La Lb va vb sa sb) (hu : Upd X W W') (ha : ¬ X La) (hb : ¬ X Lb) (hva : ∀ k, va.ownBlock = some k → ¬ X k) (hvb : ∀ k, vb.ownBlock = some k → ¬ X k) : Two W' lo La Lb va vb sa sb :=
  ⟨h.a.upd hu ha hva, h.b.upd hu hb hvb, h.sep, h.ne, h.la, h.lb, Nat.le_trans h.lo_le hu.size⟩

def TwoSend (W : World) (lo La Lb : Nat) (va vb : Value) (sa sb : LS) (m : Mg) (e : Ending) (w' : World) : Prop :=
  e = .returned (.bool true) ∧ ∃ va', Two w' lo La Lb va' vb (sa.push m) sb ∧ Upd (fun k => k = La ∨ some k = va.ownBlock) W w' ∧ (va'.ownBlock = va.ownBlock ∨ ∃ g, va'.ownBlock = some g ∧ W.heap.size ≤ g)
theorem two_send {W : World} {lo La Lb : Nat} {va vb : Value} {sa sb : LS} (h : Two W lo La Lb va vb sa sb) (m : Mg) (hq : sa.q.length < 4) :
    Calls Try.prog 8 #[.pointer (some ⟨La, 0, none⟩), m.v] W (TwoSend W lo La Lb va vb sa sb m) :=
  (send_ok W La lo va sa m h.a h.la h.lo_le hq).mono fun e w' ⟨he, va', hl, hu, hb⟩ => by
    have h2 : ∀ k, va.ownBlock = some k → lo ≤ k := fun k hk => (h.a.que.lt k hk).1
    have h3 : ∀ k, vb.ownBlock = some k → lo ≤ k ∧ k < W.heap.size := fun k hk => h.b.que.lt k hk
    refine ⟨he, va', ⟨hl, h.b.upd hu (fun e => ?_) (fun k hk e => ?_), fun k h4 h5 => ?_, h.ne, h.la, h.lb, Nat.le_trans h.lo_le hu.size⟩, hu, hb⟩
    · rcases e with e | e
      · exact h.ne e.symm
      · have := h2 _ e.symm; have := h.lb; omega
    · rcases e with e | e
      · have := (h3 k hk).1; have := h.la; omega
      · exact h.sep k e.symm hk
    · rcases hb with hb | ⟨g, hg, hge⟩
      · exact h.sep k (hb ▸ h4) h5
      · rw [hg] at h4; have := (h3 k h5).2; cases h4; omega

def TwoPost (W : World) (lo La Lb : Nat) (va vb : Value) (sa sb : LS) (v : Value) (e : Ending) (w' : World) : Prop :=
  e = .returned v ∧ ∃ va', va'.ownBlock = va.ownBlock ∧ Two w' lo La Lb va' vb sa sb ∧ Upd (fun k => k = La) W w'
theorem two_step {W w' : World} {lo La Lb : Nat} {va va' vb : Value} {sa sa' sb : LS} (h : Two W lo La Lb va vb sa sb) (hl : LinkIs w' La lo va' sa') (ho : va'.ownBlock = va.ownBlock) (hu : Upd (fun k => k = La) W w') : Two w' lo La Lb va' vb sa' sb :=
  ⟨hl, h.b.upd hu (fun e => h.ne e.symm) (fun k hk e => by have := (h.b.que.lt k hk).1; have := h.la; omega), fun k h4 h5 => h.sep k (ho ▸ h4) h5, h.ne, h.la, h.lb, Nat.le_trans h.lo_le hu.size⟩
theorem two_poll {W : World} {lo La Lb : Nat} {va vb : Value} {sa sb : LS} (h : Two W lo La Lb va vb sa sb) (now : Int) (hs : 0 ≤ sa.sent ∧ sa.sent ≤ 1099511627776) :
    Calls Try.prog 9 #[.pointer (some ⟨La, 0, none⟩), .int .i64 now] W (TwoPost W lo La Lb va vb (sa.poll now).1 sb (.tuple #[(sa.poll now).2.1.v, .bool (sa.poll now).2.2])) :=
  (poll_any W La lo va sa now h.a h.la hs).mono fun _ _ ⟨he, hl, hu⟩ => ⟨he, va, rfl, two_step h hl rfl hu, hu⟩
theorem two_recv {W : World} {lo La Lb : Nat} {va vb : Value} {sa sb : LS} (h : Two W lo La Lb va vb sa sb) (p : Pk) (hs : p.s = sa.ses) (he : p.e = sa.ep) (now : Int) :
    Calls Try.prog 10 #[.pointer (some ⟨La, 0, none⟩), p.v, .int .i64 now] W (TwoPost W lo La Lb va vb (sa.recv p.q p.a p.has p.m now).1 sb (.tuple #[(sa.recv p.q p.a p.has p.m now).2.1.v, .bool (sa.recv p.q p.a p.has p.m now).2.2])) := by
  obtain ⟨ps, pe, pq, pa, ph, pm⟩ := p
  simp only at hs he
  subst hs he
  exact (recv_any W La lo va sa pq pa ph pm now h.a h.la).mono fun _ _ ⟨he, va', hl, ho, hu⟩ => ⟨he, va', ho, two_step h hl ho hu, hu⟩
end Go.Proofs.Ytbbacdaenpildaa.X

/- LinkAll's plain law: the two links' states in its loop, and what each call makes of them. No walk in it. -/
import Derived.Test.YtbbacdaenpildaaXSetup
namespace Go.Proofs.Ytbbacdaenpildaa.X
open Go.RowKit Go.Proofs.Ytbbacdaenpildaa.XTick

/-- The n messages from the s-th on. -/
def qOf (s : Int) : Nat → List Mg
  | 0 => []
  | n + 1 => ⟨2, s, 0, 0⟩ :: qOf (s + 1) n
theorem qOf_length (s : Int) (n : Nat) : (qOf s n).length = n := by
  induction n generalizing s with
  | zero => rfl
  | succ n ih => simp [qOf, ih]
theorem qOf_push (s : Int) (n : Nat) : qOf s n ++ [⟨2, s + n, 0, 0⟩] = qOf s (n + 1) := by
  induction n generalizing s with
  | zero => simp [qOf]
  | succ n ih =>
    rw [qOf, List.cons_append, show s + ((n + 1 : Nat) : Int) = s + 1 + (n : Int) by omega, ih]
    rfl

/-- The sender's state and the receiver's. -/
def stA (s : Int) (n : Nat) (cnt due ha : Int) : LS := ⟨1073741824, 1073741824, 0, 1, qOf s n, s, 0, cnt, due, false, ha⟩
def stB (got : Int) (ans : Bool) (hb : Int) : LS := ⟨1073741824, 1073741824, 0, 1, [], 0, got, 0, 0, ans, hb⟩

theorem stA_push (s : Int) (n : Nat) (cnt due ha : Int) : (stA s n cnt due ha).push ⟨2, s + n, 0, 0⟩ = stA s (n + 1) cnt due ha := by
  unfold stA LS.push
  simp only [qOf_push]
theorem pz_le (t : Int) : 0 ≤ pz 2 9 t ∧ pz 2 9 t ≤ 9 := by
  unfold pz
  have h := dbl_bd (cl_bd 2) t.toNat
  have e : cl 9 = 9 := by decide
  rw [e]
  split <;> omega
theorem stA_poll (s : Int) (n : Nat) (cnt due ha i : Int) (hi : 0 ≤ i) (hi' : i < 100000) :
    ∃ due', 0 ≤ due' ∧ due' ≤ i + 9 ∧ (stA s n cnt due ha).polled i = stA s n (cnt + 1) due' ha := by
  have h := pz_le cnt
  refine ⟨i + pz 2 9 cnt, by omega, by omega, ?_⟩
  unfold stA LS.polled
  simp only
  have e : cl (cl i + cl (pz 2 9 cnt)) = i + pz 2 9 cnt := by unfold cl; omega
  rw [e]
theorem stA_poll_yes (s : Int) (n : Nat) (cnt due ha i : Int) (hi : 0 ≤ i) (hi' : i < 100000) (hd : due ≤ i) :
    ∃ due', 0 ≤ due' ∧ due' ≤ i + 9 ∧ (stA s (n + 1) cnt due ha).poll i = (stA s (n + 1) (cnt + 1) due' ha, ⟨0, 1, s, 0, true, ⟨2, s, 0, 0⟩⟩, true) := by
  obtain ⟨d, h1, h2, h3⟩ := stA_poll s (n + 1) cnt due ha i hi hi'
  refine ⟨d, h1, h2, ?_⟩
  have hr : (stA s (n + 1) cnt due ha).ready i = true := by
    simp [LS.ready, stA, qOf]
    exact decide_eq_true (cl_mono hd)
  unfold LS.poll
  rw [if_pos hr, h3]
  rfl
theorem stA_poll_empty (s : Int) (cnt due ha i : Int) : (stA s 0 cnt due ha).poll i = (stA s 0 cnt due ha, Pk.zero, false) := rfl
theorem stA_poll_no (s : Int) (n : Nat) (cnt due ha i : Int) (hi : 0 ≤ i) (hi' : i < 100000) (hd : i < due) (hd' : due < 200000) :
    (stA s n cnt due ha).poll i = (stA s n cnt due ha, Pk.zero, false) := by
  have hr : (stA s n cnt due ha).ready i = false := by
    have e1 : cl i = i := cl_of hi (by omega)
    have e2 : cl due = due := cl_of (by omega) (by omega)
    simp only [LS.ready, stA, e1, e2]
    rw [Bool.and_eq_false_iff]; right
    simp; omega
  unfold LS.poll
  rw [if_neg (by rw [hr]; simp), if_neg (by simp [stA])]
theorem stB_poll_yes (got hb i : Int) : (stB got true hb).poll i = (stB got false hb, ⟨0, 1, 0, got, false, Mg.zero⟩, true) := rfl
theorem stB_poll_no (got hb i : Int) : (stB got false hb).poll i = (stB got false hb, Pk.zero, false) := rfl
theorem nr_small (a b : Int) (h : -20000 < b - a) (h' : b - a < 20000) : nr a b = b - a := by unfold nr; omega
theorem stB_recv_new (got hb i : Int) (ans : Bool) (m : Mg) (h0 : 0 ≤ got) (h1 : got < 10000) :
    ∃ hb', (stB got ans hb).recv got 0 true m i = (stB (got + 1) true hb', m, true) := by
  refine ⟨if hb < cl i then cl i else hb, ?_⟩
  unfold LS.recv
  rw [if_neg (by simp), if_neg (by simp only [stB]; intro e; have e := of_decide_eq_true e; rw [nr_small _ _ (by omega) (by omega)] at e; omega), if_neg (by simp [stB])]
  rw [first_no (by simp [LS.pops, stB]) rfl]
  have e : md (got + 1) = got + 1 := by unfold md; omega
  simp only [stB, e]
  rfl
theorem stB_recv_old (got hb i s : Int) (ans : Bool) (m : Mg) (h0 : 0 ≤ got) (h1 : got < 10000) (hs : s < got) (h0' : 0 ≤ s) :
    ∃ hb', (stB got ans hb).recv s 0 true m i = (stB got true hb', Mg.zero, false) := by
  refine ⟨if hb < cl i then cl i else hb, ?_⟩
  unfold LS.recv
  rw [if_neg (by simp), if_neg (by simp only [stB]; intro e; have e := of_decide_eq_true e; rw [nr_small _ _ (by omega) (by omega)] at e; omega), if_pos (by simp [stB]; omega)]
  rw [first_no (by simp [LS.pops, stB]) rfl]
  rfl
theorem stA_recv_yes (s : Int) (n : Nat) (cnt due ha i : Int) (h0 : 0 ≤ s) (h1 : s < 10000) :
    ∃ ha', (stA s (n + 1) cnt due ha).recv 0 (s + 1) false Mg.zero i = (stA (s + 1) n 0 0 ha', Mg.zero, false) := by
  refine ⟨if ha < cl i then cl i else ha, ?_⟩
  have e : md (s + 1) = s + 1 := by unfold md; omega
  unfold LS.recv
  rw [if_pos rfl]
  rw [first_yes (by simp [LS.pops, stA, qOf, e]) rfl]
  simp only [stA, qOf, List.tail_cons, e]
  rfl
theorem stA_recv_no (s : Int) (n : Nat) (cnt due ha i : Int) (h0 : 0 ≤ s) (h1 : s < 10000) :
    ∃ ha', (stA s n cnt due ha).recv 0 s false Mg.zero i = (stA s n cnt due ha', Mg.zero, false) := by
  refine ⟨if ha < cl i then cl i else ha, ?_⟩
  have e : md (s + 1) = s + 1 := by unfold md; omega
  unfold LS.recv
  rw [if_pos rfl]
  rw [first_no (by simp [LS.pops, stA, e]; omega) rfl]
  rfl

/-- What holds of the numbers at the head of round i. -/
structure AllInv (T k i : Nat) (s : Int) (n : Nat) (got cnt due : Int) : Prop where
  s0 : 0 ≤ s
  sk : s + n ≤ k
  n4 : n ≤ 4
  g0 : s ≤ got
  g1 : got ≤ s + 1
  g2 : got ≤ s + n
  c0 : 0 ≤ cnt
  c1 : cnt ≤ i
  d0 : 0 ≤ due
  d1 : due ≤ i + 8
  e0 : n = 0 → due = 0
  run : T ≤ i → s = k ∨ (s < k ∧ (k - s) + (i - T) ≤ k + 8 ∧ (k - s) + (due - i) + (i - T) ≤ k + 8)

/-- A round in which no message was acknowledged; with one that was. -/
theorem all_keep {T k i : Nat} {s : Int} {m1 : Nat} {got2 cnt1 due due1 : Int} (s0 : 0 ≤ s) (sk : s + m1 ≤ k) (n4 : m1 ≤ 4) (k0 : s ≤ got2) (k1 : got2 ≤ s + 1) (k2 : got2 ≤ s + m1) (f0 : 0 ≤ cnt1) (f1 : cnt1 ≤ i + 1) (f2 : 0 ≤ due1) (f3 : due1 ≤ i + 9)
    (e0 : m1 = 0 → due1 = 0) (run : T ≤ i → s = k ∨ (s < k ∧ i < due ∧ due1 = due ∧ (k - s) + (due - i) + (i - T) ≤ k + 8)) : AllInv T k (i + 1) s m1 got2 cnt1 due1 := by
  refine ⟨s0, sk, n4, k0, k1, k2, f0, by omega, f2, by omega, e0, fun h => ?_⟩
  by_cases hT : T ≤ i
  · rcases run hT with h | ⟨h1, h2, h3, h4⟩
    · exact .inl h
    · exact .inr ⟨h1, by omega, by omega⟩
  · omega
theorem all_pop {T k i : Nat} {s : Int} {m3 : Nat} (s0 : 0 ≤ s) (sk : s + (m3 + 1) ≤ k) (n4 : m3 + 1 ≤ 4) (run : T ≤ i → s = k ∨ (s < k ∧ (k - s) + (i - T) ≤ k + 8)) : AllInv T k (i + 1) (s + 1) m3 (s + 1) 0 0 := by
  refine ⟨by omega, by omega, by omega, by omega, by omega, by omega, by omega, by omega, by omega, by omega, fun _ => rfl, fun h => ?_⟩
  by_cases hT : T ≤ i
  · rcases run hT with h | ⟨h1, h2⟩ <;> omega
  · omega

theorem Two.alloc {W : World} {lo La Lb : Nat} {va vb : Value} {sa sb : LS} (h : Two W lo La Lb va vb sa sb) (o : Obj) : Two (W.alloc o) lo La Lb va vb sa sb :=
  h.upd ((Upd.refl (fun _ => False) W).alloc o) (fun h => h) (fun h => h) (fun _ _ h => h) (fun _ _ h => h)
theorem Two.below_send {w wr w' : World} {lo La Lb : Nat} {va vb : Value} {sa sb : LS} (t : Two wr lo La Lb va vb sa sb) (hb : Below w.heap.size w wr) (hla : w.heap.size ≤ La) (u : Upd (fun k => k = La ∨ some k = va.ownBlock) wr w') : Below w.heap.size w w' :=
  hb.trans (u.below hb.size (fun k hk => by
    rcases hk with rfl | hk
    · exact hla
    · have := (t.a.que.lt k hk.symm).1; have := t.la; omega))
theorem Two.below_at {w wr w' : World} {L : Nat} (hb : Below w.heap.size w wr) (hl : w.heap.size ≤ L) (u : Upd (fun k => k = L) wr w') : Below w.heap.size w w' :=
  hb.trans (u.below hb.size (fun k hk => by rcases hk with rfl; exact hl))

/-- LinkAll's loop: what holds at the head of a round. -/
def AllRel (w : World) (lo La Lb T k N : Nat) (kq : Nat) (v8 v9 v11 : Value) (wr : World) : Prop :=
  ∃ (i : Nat) (s : Int) (m : Nat) (got cnt due ha hb : Int) (va vb : Value), kq = N - i ∧ i ≤ N ∧ v8 = .int .i64 (s + m) ∧ v9 = .int .i64 got ∧ v11 = .int .i64 i ∧ AllInv T k i s m got cnt due ∧
    Two wr lo La Lb va vb (stA s m cnt due ha) (stB got false hb) ∧ Below w.heap.size w wr
end Go.Proofs.Ytbbacdaenpildaa.X

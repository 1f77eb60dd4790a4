/- LinkOrder's plain law: the two links' states, the packets under way, and what each call makes of them. No walk in it. -/
import Derived.Test.YtbbacdaenpildaaXAllLaw
import Derived.Deep.AppendLies
namespace Go.Proofs.Ytbbacdaenpildaa.X
open Go.RowKit Go.Proofs.Ytbbacdaenpildaa.XTick

/-- The n messages from the s-th on. -/
def qO (s : Int) : Nat → List Mg
  | 0 => []
  | n + 1 => ⟨1, s, 0, 0⟩ :: qO (s + 1) n
theorem qO_length (s : Int) (n : Nat) : (qO s n).length = n := by
  induction n generalizing s with
  | zero => rfl
  | succ n ih => simp [qO, ih]
theorem qO_push (s : Int) (n : Nat) : qO s n ++ [⟨1, s + n, 0, 0⟩] = qO s (n + 1) := by
  induction n generalizing s with
  | zero => simp [qO]
  | succ n ih =>
    rw [qO, List.cons_append, show s + ((n + 1 : Nat) : Int) = s + 1 + (n : Int) by omega, ih]
    rfl

/-- The numbers of one end. -/
structure Sd where
  s : Int
  n : Nat
  g : Int
  cnt : Int
  due : Int
  ans : Bool
  hd : Int
def Sd.ls (a : Sd) : LS := ⟨1073741824, 1073741824, 3, 9, qO a.s a.n, a.s, a.g, a.cnt, a.due, a.ans, a.hd⟩

/-- A packet that a sent, some time. -/
structure Pok (a : Sd) (p : Pk) : Prop where
  s : p.s = 3
  e : p.e = 9
  q0 : 0 ≤ p.q
  q1 : p.q ≤ a.s
  a0 : 0 ≤ p.a
  a1 : p.a ≤ a.g
  m : p.has = true → p.m = ⟨1, p.q, 0, 0⟩ ∧ p.q < a.s + a.n
theorem Pok.mono {a b : Sd} {p : Pk} (h : Pok a p) (h1 : a.s ≤ b.s) (h2 : a.g ≤ b.g) (h3 : a.s + a.n ≤ b.s + b.n) : Pok b p :=
  ⟨h.s, h.e, h.q0, Int.le_trans h.q1 h1, h.a0, Int.le_trans h.a1 h2, fun e => ⟨(h.m e).1, Int.lt_of_lt_of_le (h.m e).2 h3⟩⟩

/-- From a to b: what holds of their numbers, and of the packets on the way to b. -/
structure Side (i : Nat) (a b : Sd) (ps : List Pk) : Prop where
  s0 : 0 ≤ a.s
  g0 : a.s ≤ b.g
  g1 : b.g ≤ a.s + 1
  g2 : b.g ≤ a.s + a.n
  si : a.s + a.n ≤ i
  c0 : 0 ≤ a.cnt
  ci : a.cnt ≤ i
  pok : ∀ p ∈ ps, Pok a p
theorem Side.next {i : Nat} {a b : Sd} {ps : List Pk} (h : Side i a b ps) : Side (i + 1) a b ps :=
  ⟨h.s0, h.g0, h.g1, h.g2, by have := h.si; omega, h.c0, by have := h.ci; omega, h.pok⟩
theorem Side.other {i : Nat} {a b c : Sd} {ps : List Pk} (h : Side i a b ps) (e : c.g = b.g) : Side i a c ps :=
  ⟨h.s0, by rw [e]; exact h.g0, by rw [e]; exact h.g1, by rw [e]; exact h.g2, h.si, h.c0, h.ci, h.pok⟩
theorem Side.less {i : Nat} {a b : Sd} {ps qs : List Pk} (h : Side i a b ps) (hq : ∀ p ∈ qs, p ∈ ps) : Side i a b qs :=
  ⟨h.s0, h.g0, h.g1, h.g2, h.si, h.c0, h.ci, fun p hp => h.pok p (hq p hp)⟩

/-! ### Send -/
theorem ls_push (a : Sd) : a.ls.push ⟨1, a.s + a.n, 0, 0⟩ = Sd.ls { a with n := a.n + 1 } := by
  unfold Sd.ls LS.push
  simp only [qO_push]
theorem Side.push {i : Nat} {a b : Sd} {ps : List Pk} (h : Side i a b ps) (hi : a.s + a.n + 1 ≤ i + 1) : Side (i + 1) { a with n := a.n + 1 } b ps :=
  ⟨h.s0, h.g0, h.g1, by have := h.g2; simp; omega, by simp; omega, h.c0, by have := h.ci; simp; omega, fun p hp => (h.pok p hp).mono (Int.le_refl _) (Int.le_refl _) (by simp; omega)⟩

/-! ### Poll -/
theorem ls_poll {i : Nat} {a b : Sd} {ps : List Pk} (h : Side i a b ps) (hg : 0 ≤ a.g) :
    ∃ (a' : Sd) (p : Pk) (ok : Bool), a.ls.poll i = (a'.ls, p, ok) ∧ a'.s = a.s ∧ a'.n = a.n ∧ a'.g = a.g ∧ 0 ≤ a'.cnt ∧ a'.cnt ≤ i + 1 ∧ (ok = true → Pok a p) := by
  have hs := h.s0
  have hc := h.c0
  have hci := h.ci
  unfold LS.poll
  by_cases hr : a.ls.ready i = true
  · rw [if_pos hr]
    refine ⟨{ a with due := cl (cl i + cl (pz 2 9 a.cnt)), cnt := a.cnt + 1, ans := false }, _, _, rfl, rfl, rfl, rfl, by simp; omega, by simp; omega, fun _ => ⟨rfl, rfl, hs, Int.le_refl _, hg, Int.le_refl _, fun _ => ?_⟩⟩
    cases hn : a.n with
    | zero => simp [LS.ready, Sd.ls, hn, qO] at hr
    | succ n => simp [Sd.ls, hn, qO]; omega
  · rw [if_neg hr]
    by_cases ha : a.ls.ans = true
    · rw [if_pos ha]
      exact ⟨{ a with ans := false }, _, _, rfl, rfl, rfl, rfl, hc, by simp; omega, fun _ => ⟨rfl, rfl, hs, Int.le_refl _, hg, Int.le_refl _, fun e => by simp at e⟩⟩
    · rw [if_neg ha]
      exact ⟨a, _, _, rfl, rfl, rfl, rfl, hc, by omega, fun e => by cases e⟩

/-! ### Recv -/
theorem ls_first {i : Nat} {a b : Sd} {ps : List Pk} {x : Int} (h : Side i a b ps) (hi : i < 10000) (hx : x ≤ b.g) (now : Int) :
    ∃ a' : Sd, a.ls.first x now = a'.ls ∧ a.s ≤ a'.s ∧ a'.s + a'.n = a.s + a.n ∧ a'.g = a.g ∧ 0 ≤ a'.cnt ∧ a'.cnt ≤ i ∧ a'.s ≤ b.g ∧ b.g ≤ a'.s + 1 := by
  have hs := h.s0
  have hc := h.c0
  have hci := h.ci
  have hg0 := h.g0
  have hg1 := h.g1
  have hg2 := h.g2
  have hsi := h.si
  have e : md (a.s + 1) = a.s + 1 := by unfold md; omega
  by_cases hp : x = a.s + 1
  · obtain ⟨m, hm⟩ : ∃ m, a.n = m + 1 := ⟨a.n - 1, by omega⟩
    refine ⟨{ a with hd := if a.hd < cl now then cl now else a.hd, s := a.s + 1, n := m, cnt := 0, due := 0 }, ?_, by simp; omega, by simp; omega, rfl, by simp, by simp, by simp; omega, by simp; omega⟩
    rw [first_yes (by simp [LS.pops, Sd.ls, hm, qO, e, hp]) rfl]
    simp only [Sd.ls, hm, qO, List.tail_cons, e]
  · refine ⟨{ a with hd := if a.hd < cl now then cl now else a.hd }, ?_, by simp, by simp, rfl, hc, hci, hg0, hg1⟩
    rw [first_no (by simp [LS.pops, Sd.ls, e, hp]) rfl]
    rfl

/-- What a packet from b does to a. -/
theorem ls_recv {i : Nat} {a b : Sd} {ps qs : List Pk} {p : Pk} (h : Side i a b ps) (k : Side i b a qs) (hi : i < 10000) (hp : Pok b p) (now : Int) :
    ∃ (a' : Sd) (m : Mg) (ok : Bool), a.ls.recv p.q p.a p.has p.m now = (a'.ls, m, ok) ∧ a.s ≤ a'.s ∧ a'.s + a'.n = a.s + a.n ∧ 0 ≤ a'.cnt ∧ a'.cnt ≤ i ∧ a'.s ≤ b.g ∧ b.g ≤ a'.s + 1 ∧
      (ok = false → a'.g = a.g) ∧ (ok = true → a'.g = a.g + 1 ∧ m = ⟨1, a.g, 0, 0⟩ ∧ a.g ≤ b.s ∧ a.g < b.s + b.n) := by
  obtain ⟨a1, e1, f1, f2, f3, f4, f5, f6, f7⟩ := ls_first h hi (by have := hp.a1; exact this) now
  have hk0 := k.g0
  have hk1 := k.g1
  have hks := k.s0
  have hkg := k.g2
  have hki := k.si
  have q0 := hp.q0
  have q1 := hp.q1
  unfold LS.recv
  rw [e1]
  by_cases hh : p.has = false
  · rw [if_pos hh]
    exact ⟨a1, _, _, rfl, f1, f2, f4, f5, f6, f7, fun _ => f3, fun e => by cases e⟩
  · rw [if_neg hh]
    have hack : a.ls.ack = a.g := rfl
    rw [hack]
    rw [if_neg (by intro e; have e := of_decide_eq_true e; rw [nr_small _ _ (by omega) (by omega)] at e; omega)]
    by_cases hq : p.q = a.g
    · rw [if_neg (by simp [hq])]
      have e : md (a.g + 1) = a.g + 1 := by unfold md; omega
      obtain ⟨hm1, hm2⟩ := hp.m (by simpa using hh)
      refine ⟨{ a1 with ans := true, g := a.g + 1 }, p.m, true, by rw [e]; rfl, f1, f2, f4, f5, f6, f7, (fun e => by cases e), fun _ => ⟨rfl, by rw [hm1, hq], by omega, by omega⟩⟩
    · rw [if_pos (by simp [hq])]
      exact ⟨{ a1 with ans := true }, _, _, rfl, f1, f2, f4, f5, f6, f7, fun _ => f3, fun e => by cases e⟩

theorem recv_sides {i : Nat} {a a' b : Sd} {ps qs : List Pk} {ok : Bool} (h : Side i a b ps) (k : Side i b a qs) (h1 : a.s ≤ a'.s) (h2 : a'.s + a'.n = a.s + a.n) (h3 : 0 ≤ a'.cnt) (h4 : a'.cnt ≤ i) (h5 : a'.s ≤ b.g) (h6 : b.g ≤ a'.s + 1)
    (h7 : ok = false → a'.g = a.g) (h8 : ok = true → a'.g = a.g + 1 ∧ a.g ≤ b.s ∧ a.g < b.s + b.n) : Side i a' b ps ∧ Side i b a' qs ∧ a.g ≤ a'.g := by
  have hg : a.g ≤ a'.g := by
    cases ok
    · rw [h7 rfl]; exact Int.le_refl _
    · have := (h8 rfl).1; omega
  have k0 := k.g0
  have k1 := k.g1
  have k2 := k.g2
  refine ⟨⟨by have := h.s0; omega, h5, h6, by have := h.g2; omega, by have := h.si; omega, h3, h4, fun p hp => (h.pok p hp).mono h1 hg (by omega)⟩, ⟨k.s0, by omega, ?_, ?_, k.si, k.c0, k.ci, k.pok⟩, hg⟩
  · cases ok
    · rw [h7 rfl]; exact k1
    · have := h8 rfl; omega
  · cases ok
    · rw [h7 rfl]; exact k2
    · have := h8 rfl; omega

/-! ### The packets under way, in memory -/
def pcells (ps : List Pk) : List Value := ps.flatMap Pk.cells
theorem pcells_append (p q : List Pk) : pcells (p ++ q) = pcells p ++ pcells q := by simp [pcells]
theorem pcells_length (q : List Pk) : (pcells q).length = q.length * 9 := by
  induction q with
  | nil => rfl
  | cons m q ih => rw [show pcells (m :: q) = m.cells ++ pcells q from rfl, List.length_append, ih]; simp [Pk.cells]; omega

/-- Two cells of a block that is not frozen. -/
def C2 (W : World) (B x y : Nat) (u v : Value) : Prop := ∃ cur t, W.heap[B]? = some (.cells cur t (0, 0)) ∧ cur[x]? = some u ∧ cur[y]? = some v
theorem C2.swap {W : World} {B x y : Nat} {u v : Value} (h : C2 W B x y u v) : C2 W B y x v u := by
  obtain ⟨cur, t, h1, h2, h3⟩ := h
  exact ⟨cur, t, h1, h3, h2⟩
theorem C2.lt {W : World} {B x y : Nat} {u v : Value} (h : C2 W B x y u v) : B < W.heap.size := by
  obtain ⟨cur, t, h1, h2, h3⟩ := h
  exact at_lt h1
theorem C2.fst {W : World} {B x y : Nat} {u v : Value} (h : C2 W B x y u v) : W.cell? ⟨B, x, none⟩ = some u := by
  obtain ⟨cur, t, h1, h2, h3⟩ := h
  exact at_cell h1 h2
theorem C2.free {W : World} {B x y : Nat} {u v : Value} (h : C2 W B x y u v) (o : Nat) : W.frozen? ⟨B, o, none⟩ = false := by
  obtain ⟨cur, t, h1, h2, h3⟩ := h
  exact at_free h1 o
theorem C2.upd {X : Nat → Prop} {W W' : World} {B x y : Nat} {u v : Value} (h : C2 W B x y u v) (hu : Upd X W W') (hx : ¬ X B) : C2 W' B x y u v := by
  obtain ⟨cur, t, h1, h2, h3⟩ := h
  exact ⟨cur, t, at_upd hu h1 hx, h2, h3⟩
theorem C2.set {W : World} {B x y : Nat} {u v : Value} (h : C2 W B x y u v) (hxy : x ≠ y) (u' : Value) : C2 (W.setCell ⟨B, x, none⟩ u') B x y u' v := by
  obtain ⟨cur, t, h1, h2, h3⟩ := h
  refine ⟨_, t, at_same h1 u', ?_, ?_⟩
  · rw [Array.getElem?_setIfInBounds, if_pos rfl, if_pos (Array.getElem?_eq_some_iff.1 h2).1]
  · rw [Array.getElem?_setIfInBounds, if_neg hxy, h3]

theorem ownsRow_upd {X : Nat → Prop} {W W' : World} {lo n : Nat} {v : Value} {xs : List Value} (h : W.ownsRow lo 38 9 v n xs) (hu : Upd X W W') (hx : ∀ k, v.ownBlock = some k → ¬ X k) : W'.ownsRow lo 38 9 v n xs := by
  refine ⟨h.1, ?_⟩
  rcases h.2 with h | ⟨g, cap, cur, rfl, h1, h2, r⟩
  · exact .inl h
  · exact .inr ⟨g, cap, cur, rfl, h1, at_upd hu h2 (hx g rfl), r⟩
theorem ownsRow_lt {W : World} {lo n : Nat} {v : Value} {xs : List Value} (h : W.ownsRow lo 38 9 v n xs) : ∀ k, v.ownBlock = some k → lo ≤ k ∧ k < W.heap.size := by
  intro k hk
  rcases h.2 with ⟨rfl, _⟩ | ⟨g, cap, cur, rfl, h1, h2, r⟩
  · simp [Value.ownBlock] at hk
  · simp [Value.ownBlock] at hk
    subst hk
    exact ⟨h1, at_lt h2⟩

/-- LinkOrder's memory: the two links, the two slices of packets under way, and the four arrays of the call; seen from the end at x. -/
structure Ord (W : World) (lo x y EB WB SB GB La Lb : Nat) (va vb wa wb : Value) (a b : LS) (pa pb : List Pk) (sa sb ga gb : Int) : Prop where
  two : Two W lo La Lb va vb a b
  ra : W.ownsRow lo 38 9 wa pa.length (pcells pa)
  rb : W.ownsRow lo 38 9 wb pb.length (pcells pb)
  ww : ∀ k, wa.ownBlock = some k → wb.ownBlock = some k → False
  wv : ∀ k, (wa.ownBlock = some k ∨ wb.ownBlock = some k) → (va.ownBlock = some k ∨ vb.ownBlock = some k) → False
  ce : C2 W EB x y (.pointer (some ⟨La, 0, none⟩)) (.pointer (some ⟨Lb, 0, none⟩))
  cw : C2 W WB x y wa wb
  cs : C2 W SB x y (.int .i64 sa) (.int .i64 sb)
  cg : C2 W GB x y (.int .i64 ga) (.int .i64 gb)
  xy : x ≠ y
  lt : EB < lo ∧ WB < lo ∧ SB < lo ∧ GB < lo
  ne : EB ≠ WB ∧ EB ≠ SB ∧ EB ≠ GB ∧ WB ≠ SB ∧ WB ≠ GB ∧ SB ≠ GB
  nl : EB ≠ La ∧ WB ≠ La ∧ SB ≠ La ∧ GB ≠ La ∧ EB ≠ Lb ∧ WB ≠ Lb ∧ SB ≠ Lb ∧ GB ≠ Lb
theorem Ord.swap {W : World} {lo x y EB WB SB GB La Lb : Nat} {va vb wa wb : Value} {a b : LS} {pa pb : List Pk} {sa sb ga gb : Int} (h : Ord W lo x y EB WB SB GB La Lb va vb wa wb a b pa pb sa sb ga gb) :
    Ord W lo y x EB WB SB GB Lb La vb va wb wa b a pb pa sb sa gb ga :=
  ⟨h.two.swap, h.rb, h.ra, fun k h1 h2 => h.ww k h2 h1, fun k h1 h2 => h.wv k h1.symm h2.symm, h.ce.swap, h.cw.swap, h.cs.swap, h.cg.swap, fun e => h.xy e.symm, h.lt, h.ne, by have := h.nl; omega⟩
/-- Steps that touch none of it. -/
theorem Ord.upd {X : Nat → Prop} {W W' : World} {lo x y EB WB SB GB La Lb : Nat} {va vb wa wb : Value} {a b : LS} {pa pb : List Pk} {sa sb ga gb : Int} (h : Ord W lo x y EB WB SB GB La Lb va vb wa wb a b pa pb sa sb ga gb) (hu : Upd X W W') (hx : ∀ k, k < W.heap.size → ¬ X k) :
    Ord W' lo x y EB WB SB GB La Lb va vb wa wb a b pa pb sa sb ga gb :=
  ⟨h.two.upd hu (hx _ (at_lt h.two.a.blk)) (hx _ (at_lt h.two.b.blk)) (fun k hk => hx _ (h.two.a.que.lt k hk).2) (fun k hk => hx _ (h.two.b.que.lt k hk).2), ownsRow_upd h.ra hu (fun k hk => hx _ (ownsRow_lt h.ra k hk).2), ownsRow_upd h.rb hu (fun k hk => hx _ (ownsRow_lt h.rb k hk).2), h.ww, h.wv,
    h.ce.upd hu (hx _ h.ce.lt), h.cw.upd hu (hx _ h.cw.lt), h.cs.upd hu (hx _ h.cs.lt), h.cg.upd hu (hx _ h.cg.lt), h.xy, h.lt, h.ne, h.nl⟩
/-- A call at the link at x: its block and its queue's block change. -/
theorem Ord.step {W W' : World} {lo x y EB WB SB GB La Lb : Nat} {va va' vb wa wb : Value} {a a' b : LS} {pa pb : List Pk} {sa sb ga gb : Int} (h : Ord W lo x y EB WB SB GB La Lb va vb wa wb a b pa pb sa sb ga gb) (t : Two W' lo La Lb va' vb a' b) (hu : Upd (fun k => k = La ∨ some k = va.ownBlock) W W')
    (hv : va'.ownBlock = va.ownBlock ∨ ∃ g, va'.ownBlock = some g ∧ W.heap.size ≤ g) : Ord W' lo x y EB WB SB GB La Lb va' vb wa wb a' b pa pb sa sb ga gb := by
  have hq : ∀ k, va.ownBlock = some k → lo ≤ k := fun k hk => (h.two.a.que.lt k hk).1
  have hl := h.two.la
  have hw : ∀ k, (wa.ownBlock = some k ∨ wb.ownBlock = some k) → ¬ (k = La ∨ some k = va.ownBlock) := fun k hk e => by
    have hlo : lo ≤ k := by rcases hk with hk | hk; exact (ownsRow_lt h.ra k hk).1; exact (ownsRow_lt h.rb k hk).1
    rcases e with e | e
    · omega
    · exact h.wv k hk (.inl e.symm)
  have hfix : ∀ k, k < lo → k ≠ La → ¬ (k = La ∨ some k = va.ownBlock) := fun k hk hne e => by
    rcases e with e | e
    · exact hne e
    · have := hq k e.symm; omega
  have hlt := h.lt
  have hnl := h.nl
  refine ⟨t, ownsRow_upd h.ra hu (fun k hk => hw k (.inl hk)), ownsRow_upd h.rb hu (fun k hk => hw k (.inr hk)), h.ww, fun k h1 h2 => ?_, h.ce.upd hu (hfix _ hlt.1 hnl.1), h.cw.upd hu (hfix _ hlt.2.1 hnl.2.1), h.cs.upd hu (hfix _ hlt.2.2.1 hnl.2.2.1), h.cg.upd hu (hfix _ hlt.2.2.2 hnl.2.2.2.1), h.xy, h.lt, h.ne, h.nl⟩
  rcases hv with hv | ⟨g, hv, hge⟩
  · exact h.wv k h1 (by rwa [hv] at h2)
  · rcases h2 with h2 | h2
    · rw [hv] at h2
      have h2 := Option.some.inj h2
      subst h2
      have : g < W.heap.size := by rcases h1 with h1 | h1; exact (ownsRow_lt h.ra g h1).2; exact (ownsRow_lt h.rb g h1).2
      omega
    · exact h.wv k h1 (.inr h2)
theorem Ord.setS {W : World} {lo x y EB WB SB GB La Lb : Nat} {va vb wa wb : Value} {a b : LS} {pa pb : List Pk} {sa sb ga gb : Int} (h : Ord W lo x y EB WB SB GB La Lb va vb wa wb a b pa pb sa sb ga gb) (n : Int) :
    Ord (W.setCell ⟨SB, x, none⟩ (.int .i64 n)) lo x y EB WB SB GB La Lb va vb wa wb a b pa pb n sb ga gb := by
  have hu : Upd (fun k => k = SB) W (W.setCell ⟨SB, x, none⟩ (.int .i64 n)) := (Upd.refl (fun k => k = SB) W).setCell (.inl rfl) _
  have hlt := h.lt
  have hnl := h.nl
  have hne := h.ne
  exact ⟨h.two.upd hu (by omega) (by omega) (fun k hk e => by have := (h.two.a.que.lt k hk).1; omega) (fun k hk e => by have := (h.two.b.que.lt k hk).1; omega), ownsRow_upd h.ra hu (fun k hk e => by have := (ownsRow_lt h.ra k hk).1; omega), ownsRow_upd h.rb hu (fun k hk e => by have := (ownsRow_lt h.rb k hk).1; omega), h.ww, h.wv,
    h.ce.upd hu (by omega), h.cw.upd hu (by omega), h.cs.set h.xy _, h.cg.upd hu (by omega), h.xy, h.lt, h.ne, h.nl⟩
theorem Ord.setG {W : World} {lo x y EB WB SB GB La Lb : Nat} {va vb wa wb : Value} {a b : LS} {pa pb : List Pk} {sa sb ga gb : Int} (h : Ord W lo x y EB WB SB GB La Lb va vb wa wb a b pa pb sa sb ga gb) (n : Int) :
    Ord (W.setCell ⟨GB, x, none⟩ (.int .i64 n)) lo x y EB WB SB GB La Lb va vb wa wb a b pa pb sa sb n gb := by
  have hu : Upd (fun k => k = GB) W (W.setCell ⟨GB, x, none⟩ (.int .i64 n)) := (Upd.refl (fun k => k = GB) W).setCell (.inl rfl) _
  have hlt := h.lt
  have hnl := h.nl
  have hne := h.ne
  exact ⟨h.two.upd hu (by omega) (by omega) (fun k hk e => by have := (h.two.a.que.lt k hk).1; omega) (fun k hk e => by have := (h.two.b.que.lt k hk).1; omega), ownsRow_upd h.ra hu (fun k hk e => by have := (ownsRow_lt h.ra k hk).1; omega), ownsRow_upd h.rb hu (fun k hk e => by have := (ownsRow_lt h.rb k hk).1; omega), h.ww, h.wv,
    h.ce.upd hu (by omega), h.cw.upd hu (by omega), h.cs.upd hu (by omega), h.cg.set h.xy _, h.xy, h.lt, h.ne, h.nl⟩
/-- Another slice of packets, stored. -/
theorem Ord.setW {W W' : World} {lo x y EB WB SB GB La Lb : Nat} {va vb wa wa' wb : Value} {a b : LS} {pa pa' pb : List Pk} {sa sb ga gb : Int} (h : Ord W lo x y EB WB SB GB La Lb va vb wa wb a b pa pb sa sb ga gb) (hu : Upd (fun k => some k = wa.ownBlock) W W') (hr : W'.ownsRow lo 38 9 wa' pa'.length (pcells pa'))
    (hv : wa'.ownBlock = wa.ownBlock ∨ ∃ g, wa'.ownBlock = some g ∧ W.heap.size ≤ g) : Ord (W'.setCell ⟨WB, x, none⟩ wa') lo x y EB WB SB GB La Lb va vb wa' wb a b pa' pb sa sb ga gb := by
  have hlt := h.lt
  have hnl := h.nl
  have hne := h.ne
  have hla := h.two.la
  have hlb := h.two.lb
  have hq : ∀ k, wa.ownBlock = some k → lo ≤ k := fun k hk => (ownsRow_lt h.ra k hk).1
  have hfix : ∀ k, k < lo → ¬ some k = wa.ownBlock := fun k hk e => by have := hq k e.symm; omega
  have t1 : Two W' lo La Lb va vb a b := h.two.upd hu (hfix _ hla) (hfix _ hlb) (fun k hk e => h.wv k (.inl e.symm) (.inl hk)) (fun k hk e => h.wv k (.inl e.symm) (.inr hk))
  have b1 : W'.ownsRow lo 38 9 wb pb.length (pcells pb) := ownsRow_upd h.rb hu (fun k hk e => h.ww k e.symm hk)
  have u2 : Upd (fun k => k = WB) W' (W'.setCell ⟨WB, x, none⟩ wa') := (Upd.refl (fun k => k = WB) W').setCell (.inl rfl) _
  refine ⟨t1.upd u2 (by omega) (by omega) (fun k hk e => by have := (t1.a.que.lt k hk).1; omega) (fun k hk e => by have := (t1.b.que.lt k hk).1; omega), ownsRow_upd hr u2 (fun k hk e => by have := (ownsRow_lt hr k hk).1; omega), ownsRow_upd b1 u2 (fun k hk e => by have := (ownsRow_lt b1 k hk).1; omega), fun k h1 h2 => ?_, fun k h1 h2 => ?_,
    (h.ce.upd hu (hfix _ hlt.1)).upd u2 (by omega), (h.cw.upd hu (hfix _ hlt.2.1)).set h.xy _, (h.cs.upd hu (hfix _ hlt.2.2.1)).upd u2 (by omega), (h.cg.upd hu (hfix _ hlt.2.2.2)).upd u2 (by omega), h.xy, h.lt, h.ne, h.nl⟩
  · rcases hv with hv | ⟨g, hv, hge⟩
    · exact h.ww k (by rwa [hv] at h1) h2
    · rw [hv] at h1
      have h1 := Option.some.inj h1
      subst h1
      have := (ownsRow_lt h.rb g h2).2
      omega
  · rcases h1 with h1 | h1
    · rcases hv with hv | ⟨g, hv, hge⟩
      · exact h.wv k (.inl (by rwa [hv] at h1)) h2
      · rw [hv] at h1
        have h1 := Option.some.inj h1
        subst h1
        rcases h2 with h2 | h2
        · have := (h.two.a.que.lt g h2).2; omega
        · have := (h.two.b.que.lt g h2).2; omega
    · exact h.wv k (.inr h1) h2
theorem Ord.alloc {W : World} {lo x y EB WB SB GB La Lb : Nat} {va vb wa wb : Value} {a b : LS} {pa pb : List Pk} {sa sb ga gb : Int} (h : Ord W lo x y EB WB SB GB La Lb va vb wa wb a b pa pb sa sb ga gb) (o : Obj) : Ord (W.alloc o) lo x y EB WB SB GB La Lb va vb wa wb a b pa pb sa sb ga gb :=
  h.upd ((Upd.refl (fun _ => False) W).alloc o) (fun _ _ h => h)
theorem Ord.drewN {W : World} {lo x y EB WB SB GB La Lb : Nat} {va vb wa wb : Value} {a b : LS} {pa pb : List Pk} {sa sb ga gb : Int} (h : Ord W lo x y EB WB SB GB La Lb va vb wa wb a b pa pb sa sb ga gb) (n : Nat) : Ord (W.drewN n) lo x y EB WB SB GB La Lb va vb wa wb a b pa pb sa sb ga gb :=
  h.upd ((Upd.refl (fun _ => False) W).drewN n) (fun _ _ h => h)
theorem Ord.drew {W : World} {lo x y EB WB SB GB La Lb : Nat} {va vb wa wb : Value} {a b : LS} {pa pb : List Pk} {sa sb ga gb : Int} (h : Ord W lo x y EB WB SB GB La Lb va vb wa wb a b pa pb sa sb ga gb) : Ord W.drew lo x y EB WB SB GB La Lb va vb wa wb a b pa pb sa sb ga gb :=
  h.upd ((Upd.refl (fun _ => False) W).drew) (fun _ _ h => h)
end Go.Proofs.Ytbbacdaenpildaa.X

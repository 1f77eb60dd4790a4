/- How a link lies in memory: one block of 27 cells, and a queue of messages in a block of the call's own that may begin anywhere in it. Plain facts on worlds; no program in it. -/
import Derived.WalkKit
import Derived.Below
import Derived.Laws.AppendOwn
import Derived.Deep.Draws
import Derived.Laws.IdiomCopy
import Derived.Laws.Tables
namespace Go.Proofs.Ytbbacdaenpildaa.X
open Go.RowKit

/-- A message. -/
structure Mg where
  k : Int
  a : Int
  b : Int
  c : Int
def Mg.cells (m : Mg) : List Value := [.int .i64 m.k, .int .i64 m.a, .int .i64 m.b, .int .i64 m.c]
def Mg.v (m : Mg) : Value := .agg #[.int .i64 m.k, .int .i64 m.a, .int .i64 m.b, .int .i64 m.c]
def Mg.zero : Mg := ⟨0, 0, 0, 0⟩
/-- A packet. -/
structure Pk where
  s : Int
  e : Int
  q : Int
  a : Int
  has : Bool
  m : Mg
def Pk.cells (p : Pk) : List Value := [.int .i64 p.s, .int .i64 p.e, .int .i64 p.q, .int .i64 p.a, .bool p.has, .int .i64 p.m.k, .int .i64 p.m.a, .int .i64 p.m.b, .int .i64 p.m.c]
def Pk.v (p : Pk) : Value := .agg #[.int .i64 p.s, .int .i64 p.e, .int .i64 p.q, .int .i64 p.a, .bool p.has, .int .i64 p.m.k, .int .i64 p.m.a, .int .i64 p.m.b, .int .i64 p.m.c]
def Pk.zero : Pk := ⟨0, 0, 0, 0, false, Mg.zero⟩

/-- A link's state: what of its configuration is free, and its own fields. -/
structure LS where
  tr : Int
  dd : Int
  ses : Int
  ep : Int
  q : List Mg
  seq : Int
  ack : Int
  sent : Int
  due : Int
  ans : Bool
  hd : Int
/-- The cells of a link whose queue's value is v. -/
def linkCells (s : LS) (v : Value) : Array Value := #[.int .i64 0, .int .i64 0, .int .i64 0, .int .i64 0, .int .i64 0, .int .i64 0, .int .i64 0, .int .i64 0, .int .i64 0, .int .i64 0, .int .i64 0, .int .i64 0, .int .i64 0,
  .int .i64 2, .int .i64 9, .int .i64 s.tr, .int .i64 s.dd, .int .i64 4, .int .i64 s.ses, .int .i64 s.ep, v, .int .i64 s.seq, .int .i64 s.ack, .int .i64 s.sent, .int .i64 s.due, .bool s.ans, .int .i64 s.hd]

/-- The cells of a list of messages. -/
def qcells (q : List Mg) : List Value := q.flatMap Mg.cells
theorem qcells_nil : qcells [] = [] := rfl
theorem qcells_cons (m : Mg) (q : List Mg) : qcells (m :: q) = m.cells ++ qcells q := by simp [qcells]
theorem qcells_append (p q : List Mg) : qcells (p ++ q) = qcells p ++ qcells q := by simp [qcells]
theorem qcells_length (q : List Mg) : (qcells q).length = q.length * 4 := by
  induction q with
  | nil => rfl
  | cons m q ih => rw [qcells_cons, List.length_append, ih]; simp [Mg.cells]; omega

/-- A slice's value whose elements are the messages q, in a block from lo on, anywhere in it. -/
def QV (W : World) (lo : Nat) (v : Value) (q : List Mg) : Prop :=
  (v = .slice none 0 0 ∧ q = []) ∨
  ∃ g off cap cur, v = .slice (some ⟨g, off, none⟩) q.length cap ∧ lo ≤ g ∧ W.heap[g]? = some (.cells cur 36 (0, 0)) ∧ q.length ≤ cap ∧ cap ≤ maxLen ∧ off + cap * 4 ≤ cur.size ∧
    ∀ j u, (qcells q)[j]? = some u → cur[off + j]? = some u

/-- Block L is a link in state s. -/
structure LinkIs (W : World) (L lo : Nat) (v : Value) (s : LS) : Prop where
  blk : W.heap[L]? = some (.cells (linkCells s v) 55 (0, 0))
  que : QV W lo v s.q

/-- Outside X what was there is as it was. -/
structure Upd (X : Nat → Prop) (w w' : World) : Prop where
  os : w'.os = w.os
  tape : w'.tape = w.tape
  output : w'.output = w.output
  size : w.heap.size ≤ w'.heap.size
  block : ∀ k, k < w.heap.size → ¬ X k → w'.heap[k]? = w.heap[k]?

theorem Upd.refl (X : Nat → Prop) (w : World) : Upd X w w := ⟨rfl, rfl, rfl, Nat.le_refl _, fun _ _ _ => rfl⟩
theorem Upd.trans {X : Nat → Prop} {a b c : World} (h : Upd X a b) (k : Upd X b c) : Upd X a c :=
  ⟨k.os.trans h.os, k.tape.trans h.tape, k.output.trans h.output, Nat.le_trans h.size k.size, fun i hi hx => (k.block i (Nat.lt_of_lt_of_le hi h.size) hx).trans (h.block i hi hx)⟩
/-- A second step may write blocks that came since. -/
theorem Upd.trans' {X Y : Nat → Prop} {a b c : World} (h : Upd X a b) (k : Upd Y b c) (hy : ∀ i, i < a.heap.size → Y i → X i) : Upd X a c :=
  ⟨k.os.trans h.os, k.tape.trans h.tape, k.output.trans h.output, Nat.le_trans h.size k.size, fun i hi hx => (k.block i (Nat.lt_of_lt_of_le hi h.size) (fun e => hx (hy i hi e))).trans (h.block i hi hx)⟩
theorem Upd.mono {X Y : Nat → Prop} {a b : World} (h : Upd X a b) (k : ∀ i, X i → Y i) : Upd Y a b := ⟨h.os, h.tape, h.output, h.size, fun i hi hx => h.block i hi (fun e => hx (k i e))⟩
theorem Upd.alloc {X : Nat → Prop} {a w : World} (h : Upd X a w) (o : Obj) : Upd X a (w.alloc o) :=
  h.trans ⟨rfl, rfl, rfl, by simp, fun k hk _ => Below.heap_alloc _ _ _ hk⟩
theorem Upd.drewN {X : Nat → Prop} {a w : World} (h : Upd X a w) (n : Nat) : Upd X a (w.drewN n) := ⟨h.os, h.tape, h.output, h.size, h.block⟩
theorem Upd.drew {X : Nat → Prop} {a w : World} (h : Upd X a w) : Upd X a w.drew := ⟨h.os, h.tape, h.output, h.size, h.block⟩
theorem Upd.setCell {X : Nat → Prop} {a w : World} (h : Upd X a w) {p : Addr} (hp : X p.block ∨ a.heap.size ≤ p.block) (u : Value) : Upd X a (w.setCell p u) :=
  h.trans' (Y := fun k => k = p.block) ⟨rfl, rfl, rfl, by simp [World.setCell], fun _ _ hk => Below.heap_setCell _ _ _ _ hk⟩
    (fun i hi e => by subst e; rcases hp with hp | hp; exact hp; omega)
theorem Upd.setCells {X : Nat → Prop} {a : World} {b : Nat} (hp : X b ∨ a.heap.size ≤ b) (us : List Value) : ∀ (w : World) (o : Nat), Upd X a w → Upd X a (w.setCells b o us) := by
  induction us with
  | nil => intro w o h; exact h
  | cons u us ih => intro w o h; exact ih _ _ (h.setCell (p := ⟨b, o, none⟩) hp u)
theorem Upd.grown {X : Nat → Prop} {a w w' : World} {row : Option Nat} (h : Upd X a w) (hg : w.grownBy w' row) (hr : ∀ k, row = some k → X k ∨ a.heap.size ≤ k) : Upd X a w' :=
  h.trans' (Y := fun k => row = some k) ⟨hg.os, hg.tape, hg.output, hg.size, fun k hk hx => hg.block k hk (fun e => hx e.symm)⟩
    (fun i hi e => by rcases hr i e with hp | hp; exact hp; omega)
theorem Upd.below {X : Nat → Prop} {B : Nat} {a w : World} (h : Upd X a w) (hB : B ≤ a.heap.size) (hx : ∀ k, X k → B ≤ k) : Below B a w :=
  ⟨h.os, h.tape, h.output, h.size, fun k hk => h.block k (Nat.lt_of_lt_of_le hk hB) (fun e => by have := hx k e; omega)⟩
theorem Upd.of_below {B : Nat} {a w : World} (h : Below B a w) : Upd (fun k => B ≤ k) a w :=
  ⟨h.os, h.tape, h.output, h.size, fun k _ hx => h.block k (by omega)⟩

/-! A block that is known whole, behind steps on the heap. -/
theorem at_alloc {w : World} {k : Nat} {x : Obj} (h : w.heap[k]? = some x) (o : Obj) : (w.alloc o).heap[k]? = some x :=
  (Below.heap_alloc w o k (Array.getElem?_eq_some_iff.1 h).1).trans h
theorem at_drew {w : World} {k : Nat} {x : Obj} (h : w.heap[k]? = some x) : w.drew.heap[k]? = some x := h
theorem at_other {w : World} {k : Nat} {x : Obj} (h : w.heap[k]? = some x) {p : Addr} (hne : k ≠ p.block) (u : Value) : (w.setCell p u).heap[k]? = some x :=
  (Below.heap_setCell w p u k hne).trans h
theorem at_same {w : World} {k o : Nat} {cur : Array Value} {t : TypeId} {fr : Nat × Nat} (h : w.heap[k]? = some (.cells cur t fr)) (u : Value) : (w.setCell ⟨k, o, none⟩ u).heap[k]? = some (.cells (cur.setIfInBounds o u) t fr) := by
  simp [World.setCell, Array.getElem?_modify, h]
theorem at_upd {X : Nat → Prop} {w w' : World} {k : Nat} {x : Obj} (hu : Upd X w w') (h : w.heap[k]? = some x) (hx : ¬ X k) : w'.heap[k]? = some x :=
  (hu.block k (Array.getElem?_eq_some_iff.1 h).1 hx).trans h
theorem at_lt {w : World} {k : Nat} {x : Obj} (h : w.heap[k]? = some x) : k < w.heap.size := (Array.getElem?_eq_some_iff.1 h).1
theorem at_cell {w : World} {k : Nat} {cur : Array Value} {t : TypeId} {fr : Nat × Nat} (h : w.heap[k]? = some (.cells cur t fr)) {o : Nat} {u : Value} (hu : cur[o]? = some u) : w.cell? ⟨k, o, none⟩ = some u := by
  simp [World.cell?, h, hu]
theorem at_free {w : World} {k : Nat} {cur : Array Value} {t : TypeId} (h : w.heap[k]? = some (.cells cur t (0, 0))) (o : Nat) : w.frozen? ⟨k, o, none⟩ = false := by
  simp [World.frozen?, h]

/-- Behind a call of which 'Below' is known: every cell and every mark that was there reads as before. -/
theorem bcell {W w1 : World} (hb : Below W.heap.size W w1) : (∀ b o, b < W.heap.size → w1.cell? ⟨b, o, none⟩ = W.cell? ⟨b, o, none⟩) ∧ (∀ b o, b < W.heap.size → w1.frozen? ⟨b, o, none⟩ = W.frozen? ⟨b, o, none⟩) :=
  ⟨fun b o h => hb.cell (p := ⟨b, o, none⟩) h, fun b o h => hb.frozen (p := ⟨b, o, none⟩) h⟩

/-- A block behind a row of stores into it. -/
theorem at_setCells (g : Nat) (t : TypeId) (fr : Nat × Nat) : ∀ (vs : List Value) (w : World) (cur : Array Value) (o : Nat), w.heap[g]? = some (.cells cur t fr) →
    ∃ cur', (w.setCells g o vs).heap[g]? = some (.cells cur' t fr) ∧ cur'.size = cur.size ∧ (∀ j, (j < o ∨ o + vs.length ≤ j) → cur'[j]? = cur[j]?) ∧ (∀ j, j < vs.length → o + j < cur.size → cur'[o + j]? = vs[j]?) := by
  intro vs
  induction vs with
  | nil => intro w cur o h; exact ⟨cur, h, rfl, fun _ _ => rfl, fun j hj => by simp at hj⟩
  | cons v vs ih =>
    intro w cur o h
    obtain ⟨cur', h1, h2, h3, h4⟩ := ih (w.setCell ⟨g, o, none⟩ v) (cur.setIfInBounds o v) (o + 1) (at_same h v)
    refine ⟨cur', h1, by simpa using h2, fun j hj => ?_, fun j hj hs => ?_⟩
    · rw [h3 j (by simp at hj; omega), Array.getElem?_setIfInBounds, if_neg (by simp at hj; omega)]
    · cases j with
      | zero =>
        rw [h3 (o + 0) (by omega), Array.getElem?_setIfInBounds, if_pos (by omega), if_pos (by omega)]
        rfl
      | succ j =>
        have := h4 j (by simpa using hj) (by simp; omega)
        rw [show o + (j + 1) = o + 1 + j by omega, this]
        rfl

/-- A block that is written whole. -/
theorem at_fill {w : World} {g : Nat} {cur : Array Value} {t : TypeId} {fr : Nat × Nat} (h : w.heap[g]? = some (.cells cur t fr)) (vs : List Value) (hs : cur.size = vs.length) : (w.setCells g 0 vs).heap[g]? = some (.cells vs.toArray t fr) := by
  obtain ⟨cur', h1, h2, _, h4⟩ := at_setCells g t fr vs w cur 0 h
  rw [h1]
  congr 2
  apply Array.ext_getElem?
  intro j
  by_cases hj : j < vs.length
  · have := h4 j hj (by omega)
    rw [Nat.zero_add] at this
    rw [this]; simp
  · rw [Array.getElem?_eq_none (by omega), Array.getElem?_eq_none (by simpa using hj)]

theorem at_setRow {w : World} {g : Nat} {cur : Array Value} {t : TypeId} {fr : Nat × Nat} (h : w.heap[g]? = some (.cells cur t fr)) (cs : Array Value) : (w.setRow g cs).heap[g]? = some (.cells cs t fr) := by
  simp [World.setRow, Array.getElem?_modify, h]
theorem Upd.setRow {X : Nat → Prop} {a w : World} (h : Upd X a w) {g : Nat} (hp : X g ∨ a.heap.size ≤ g) (cs : Array Value) : Upd X a (w.setRow g cs) :=
  h.trans' (Y := fun k => k = g) ⟨rfl, rfl, rfl, by simp [World.setRow], fun k _ hk => by simp only [World.setRow, Array.getElem?_modify]; rw [if_neg (fun e => hk e.symm)]⟩
    (fun i hi e => by subst e; rcases hp with hp | hp; exact hp; omega)

/-- Two results: a row of cells that lies in memory, and a slot. -/
theorem results_cell_tmp {P : Program} {fn : Func} {p q : Tmp} {ty : TypeId} (h : fn.results = #[.cell p ty, .tmp q]) (tmps : Array Value) (w : World) (g : Nat) (t : TypeId) (cs : Array Value) (fr : Nat × Nat) (d : TypeDesc) (x : Value)
    (hp : tmps.getD p undef = .pointer (some ⟨g, 0, none⟩)) (hq : tmps.getD q undef = x) (hg : w.heap[g]? = some (.cells cs t fr))
    (hu : P.underlying ty = some d) (hd : (match d with | .struct _ | .array _ _ => true | _ => false) = true) (hi : (P.info? ty).map (·.size) = some cs.size) :
    (results fn tmps).run P w = .ok (.tuple #[.agg cs, x]) w := by
  have hp' : tmps[p]?.getD undef = .pointer (some ⟨g, 0, none⟩) := by simpa using hp
  have hq' : tmps[q]?.getD undef = x := by simpa using hq
  simp [results, h, hp', hq', asAddr, run_loadVar_row w g t ty cs fr d hg hu hd hi]

theorem QV.lt {W : World} {lo : Nat} {v : Value} {q : List Mg} (h : QV W lo v q) : ∀ k, v.ownBlock = some k → lo ≤ k ∧ k < W.heap.size := by
  intro k hk
  rcases h with ⟨rfl, _⟩ | ⟨g, off, cap, cur, rfl, hlo, hg, _⟩
  · simp [Value.ownBlock] at hk
  · simp [Value.ownBlock] at hk
    subst hk
    exact ⟨hlo, at_lt hg⟩
theorem QV.upd {X : Nat → Prop} {W W' : World} {lo : Nat} {v : Value} {q : List Mg} (h : QV W lo v q) (hu : Upd X W W') (hx : ∀ k, v.ownBlock = some k → ¬ X k) : QV W' lo v q := by
  rcases h with h | ⟨g, off, cap, cur, rfl, hlo, hg, r⟩
  · exact .inl h
  · exact .inr ⟨g, off, cap, cur, rfl, hlo, at_upd hu hg (hx g rfl), r⟩
theorem QV.shape {W : World} {lo : Nat} {v : Value} {q : List Mg} (h : QV W lo v q) : ∃ ad cap, v = .slice ad q.length cap ∧ q.length ≤ cap ∧ cap ≤ maxLen := by
  rcases h with ⟨rfl, rfl⟩ | ⟨g, off, cap, cur, rfl, hlo, hg, hc, hm, r⟩
  · exact ⟨none, 0, rfl, Nat.le_refl _, by unfold maxLen; omega⟩
  · exact ⟨_, cap, rfl, hc, hm⟩
/-- The first message waits no more: the slice from 1 on, where the capacity is one (the address stays) and where it is more. -/
theorem QV.pop_last {W : World} {lo : Nat} {ad : Option Addr} {q : List Mg} (h : QV W lo (.slice ad 1 1) q) : QV W lo (.slice ad 0 0) q.tail := by
  rcases h with ⟨h, _⟩ | ⟨g, off, cap, cur, h1, h2, h3, h4, h5, h6, _⟩
  · simp at h
  · simp only [Value.slice.injEq] at h1
    obtain ⟨rfl, e1, rfl⟩ := h1
    have ht : q.tail = [] := List.eq_nil_of_length_eq_zero (by simp; omega)
    exact .inr ⟨g, off, 0, cur, by rw [ht]; rfl, h2, h3, by rw [ht]; simp, by unfold maxLen; omega, by omega, by rw [ht]; intro j u hu; simp [qcells] at hu⟩
theorem QV.pop {W : World} {lo : Nat} {ad : Option Addr} {n cap : Nat} {q : List Mg} (h : QV W lo (.slice ad n cap) q) (hn : 0 < n) :
    QV W lo (.slice (Option.map (fun x => { block := x.block, off := x.off + 4 }) ad) (n - 1) (cap - 1)) q.tail ∧ (Value.slice (Option.map (fun x => { block := x.block, off := x.off + 4 }) ad) (n - 1) (cap - 1)).ownBlock = (Value.slice ad n cap).ownBlock := by
  rcases h with ⟨h, _⟩ | ⟨g, off, cap', cur, h1, h2, h3, h4, h5, h6, h7⟩
  · simp at h; omega
  · simp only [Value.slice.injEq] at h1
    obtain ⟨rfl, e1, rfl⟩ := h1
    refine ⟨.inr ⟨g, off + 4, cap - 1, cur, by simp; omega, h2, h3, by simp; omega, by unfold maxLen at *; omega, by omega, fun j u hu => ?_⟩, rfl⟩
    cases q with
    | nil => simp [qcells] at hu
    | cons m q =>
      rw [Nat.add_assoc]
      apply h7
      rw [qcells_cons, List.getElem?_append_right (by simp [Mg.cells])]
      simpa [Mg.cells] using hu
theorem LinkIs.upd {X : Nat → Prop} {W W' : World} {L lo : Nat} {v : Value} {s : LS} (h : LinkIs W L lo v s) (hu : Upd X W W') (hL : ¬ X L) (hx : ∀ k, v.ownBlock = some k → ¬ X k) : LinkIs W' L lo v s :=
  ⟨at_upd hu h.blk hL, h.que.upd hu hx⟩
end Go.Proofs.Ytbbacdaenpildaa.X

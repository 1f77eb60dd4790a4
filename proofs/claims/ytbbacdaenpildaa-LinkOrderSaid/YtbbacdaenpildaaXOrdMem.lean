/- LinkOrder: laws on the packets under way in memory, and on picking a statement out of the function's text. -/
import Derived.Test.YtbbacdaenpildaaXOrdLaw
import Derived.Deep.LoopGhost
import Derived.Deep.DeepCutAuto
import Derived.Deep.CutBlock
import Derived.StillTailTactics
import Derived.BigQuiet
import Derived.Deep.QuietTactic
namespace Go.Proofs.Ytbbacdaenpildaa.X
open Go.RowKit Go.Proofs.Ytbbacdaenpildaa.XTick
set_option linter.unusedSimpArgs false

theorem and_one (e : Int) : ∃ x : Nat, bits BinOp.and IntKind.i64 e 1 = x ∧ x < 2 := by
  simp [bits]
  have h1 : 1 % 2 ^ IntKind.i64.bits = 1 := by decide
  rw [h1, Nat.and_one_is_mod]
  have h2 : (e % 2 ^ IntKind.i64.bits).toNat % 2 < 2 := Nat.mod_lt _ (by omega)
  refine ⟨_, ?_, h2⟩
  generalize (e % 2 ^ IntKind.i64.bits).toNat % 2 = z at *
  match z, h2 with
  | 0, _ => decide
  | 1, _ => decide
/-- Two links without messages. -/
theorem two_made {W : World} {La Lb : Nat} {a b : LS} (ha : W.heap[La]? = some (.cells (linkCells a (.slice none 0 0)) 55 (0, 0))) (hb : W.heap[Lb]? = some (.cells (linkCells b (.slice none 0 0)) 55 (0, 0))) (ne : La ≠ Lb) (qa : a.q = [] := by rfl) (qb : b.q = [] := by rfl) :
    Two W W.heap.size La Lb (.slice none 0 0) (.slice none 0 0) a b :=
  ⟨⟨ha, .inl ⟨rfl, qa⟩⟩, ⟨hb, .inl ⟨rfl, qb⟩⟩, fun k hk => by simp [Value.ownBlock] at hk, ne, at_lt ha, at_lt hb, Nat.le_refl _⟩

/-- What holds of the numbers of both ends, and of the packets on their ways. -/
structure OS (i : Nat) (a b : Sd) (pa pb : List Pk) : Prop where
  ab : Side i a b pb
  ba : Side i b a pa
  len : pa.length + pb.length ≤ i
theorem OS.swap {i : Nat} {a b : Sd} {pa pb : List Pk} (h : OS i a b pa pb) : OS i b a pb pa := ⟨h.ba, h.ab, by have := h.len; omega⟩
theorem OS.next {i : Nat} {a b : Sd} {pa pb : List Pk} (h : OS i a b pa pb) : OS (i + 1) a b pa pb := ⟨h.ab.next, h.ba.next, by have := h.len; omega⟩
theorem OS.push {i : Nat} {a b : Sd} {pa pb : List Pk} (h : OS i a b pa pb) : OS (i + 1) { a with n := a.n + 1 } b pa pb :=
  ⟨h.ab.push (by have := h.ab.si; omega), h.ba.next.other rfl, by have := h.len; omega⟩
theorem OS.polled {i : Nat} {a a' b : Sd} {pa pb : List Pk} (h : OS i a b pa pb) (f2 : a'.s = a.s) (f3 : a'.n = a.n) (f4 : a'.g = a.g) (f5 : 0 ≤ a'.cnt) (f6 : a'.cnt ≤ i + 1) : OS (i + 1) a' b pa pb :=
  ⟨⟨by rw [f2]; exact h.ab.s0, by rw [f2]; exact h.ab.g0, by rw [f2]; exact h.ab.g1, by rw [f2, f3]; exact h.ab.g2, by rw [f2, f3]; exact h.ab.next.si, f5, by omega, fun p hp => (h.ab.pok p hp).mono (by omega) (by omega) (by omega)⟩, h.ba.next.other f4, by have := h.len; omega⟩
theorem OS.sent {i : Nat} {a b : Sd} {pa pb : List Pk} {p : Pk} (h : OS (i + 1) a b pa pb) (hl : pa.length + pb.length ≤ i) (hp : Pok a p) : OS (i + 1) a b pa (pb ++ [p]) :=
  ⟨⟨h.ab.s0, h.ab.g0, h.ab.g1, h.ab.g2, h.ab.si, h.ab.c0, h.ab.ci, fun q hq => by
    rcases List.mem_append.1 hq with hq | hq
    · exact h.ab.pok q hq
    · rw [List.mem_singleton.1 hq]; exact hp⟩, h.ba, by simp; omega⟩
theorem pick_one (jj : Int) (n : Nat) (hn : 0 < n) (h4 : n ≤ 400) : ∃ k : Nat, wrap64 ((IntKind.u64.wrap jj).tmod n) = k ∧ k < n := by
  have h0 : 0 ≤ IntKind.u64.wrap jj := by simp [IntKind.wrap, IntKind.bits, IntKind.signed]; omega
  rw [Int.tmod_eq_emod_of_nonneg h0]
  have h1 : 0 ≤ IntKind.u64.wrap jj % (n : Int) := Int.emod_nonneg _ (by omega)
  have h2 : IntKind.u64.wrap jj % (n : Int) < n := Int.emod_lt_of_pos _ (by omega)
  generalize IntKind.u64.wrap jj % (n : Int) = z at *
  exact ⟨z.toNat, by unfold wrap64; omega, by omega⟩
theorem pcells_at (ps : List Pk) (k j : Nat) (hk : k < ps.length) (hj : j < 9) : (pcells ps)[k * 9 + j]? = (ps[k].cells)[j]? := by
  induction ps generalizing k with
  | nil => simp at hk
  | cons p ps ih =>
    have hc : p.cells.length = 9 := rfl
    rw [show pcells (p :: ps) = p.cells ++ pcells ps from rfl]
    cases k with
    | zero => rw [List.getElem?_append_left (by omega)]; simp
    | succ k =>
      rw [List.getElem?_append_right (by omega), hc, show (k + 1) * 9 + j - 9 = k * 9 + j by omega, ih k (by simpa using hk)]
      rfl
theorem way_range {W : World} {lo g n cap : Nat} {ps : List Pk} (h : W.ownsRow lo 38 9 (.slice (some ⟨g, 0, none⟩) n cap) n (pcells ps)) (hn : ps.length = n) (k : Nat) (hk : k < ps.length) : W.rangeAt g (k * 9) (ps[k].cells) := by
  intro j v hj
  have h9 : j < 9 := by have := (List.getElem?_eq_some_iff.1 hj).1; exact this
  rw [h.cellAt (k * 9 + j) (by omega), pcells_at ps k j hk h9]
  exact hj
theorem at_alloc_cell {w : World} {b o : Nat} {v : Value} (h : w.cell? ⟨b, o, none⟩ = some v) (ob : Obj) : (w.alloc ob).cell? ⟨b, o, none⟩ = some v := by
  have hb := World.block_lt_of_cell? _ _ h
  rw [← h]
  unfold World.cell?
  rw [Below.heap_alloc w ob b hb]
/-- An append to a row of the call's own, as a step of a region that draws its order. -/
theorem step_append_own' {w : World} {ops : Array Oper} {o : Oper} {a : Act} {K : Act → World → Prop} {Q : Exit → Act → World → Prop} {E : Prop} (hgd : o.guard = none) (s x : Operand)
    (ho : o.op = .call { callee := .builtin .append, args := #[s, x], argTypes := #[29, 29] }) (base : Nat)
    (v : Value) (n : Nat) (xs : List Value) (hs : a.eval s = v) (hown : w.ownsRow base 38 9 v n xs)
    (ad : Addr) (m c : Nat) (news : List Value) (hx : a.eval x = .slice (some ad) m c) (hl : news.length = m * 9) (hnews : ∀ j u, news[j]? = some u → w.cell? (ad.add j) = some u) (h1 : ∀ u ∈ news, u.oneCell' = true)
    (hb : n + m ≤ 1000) (hbase : base ≤ w.heap.size)
    (h : ∀ v' w', w'.ownsRow base 38 9 v' (n + m) (xs ++ news) → w.grownBy w' v.ownBlock → (v' = .slice none 0 0 ↔ v = .slice none 0 0 ∧ m = 0) → K (a.put o.dst v') w') :
    if Region.wanted o (yielded ops a.tmps) = true then Oper.wp Try.prog o a w K Q else E := by
  obtain ⟨i0, hii, hz0, hz1, hz2⟩ := info_parts (show (Try.prog.info? 38).map (fun i => (i.zero, i.size, i.bytes)) = some (some (.agg #[.int .i64 0, .int .i64 0, .int .i64 0, .int .i64 0, .bool false, .int .i64 0, .int .i64 0, .int .i64 0, .int .i64 0]), 9, 72) by kernel_rfl)
  have hw : Region.wanted o (yielded ops a.tmps) = true := by simp [Region.wanted, hgd]
  rw [if_pos hw]
  exact wp_append_own w s x 29 ho base 38 i0 _ 9 72 Try.underlying29 hii hz0 hz1 hz2 rfl (by decide) v n xs hs hown ad m c news hx hl hnews h1 (by unfold maxLen; omega) (by omega) hbase h
theorem own_of {W : World} {lo n : Nat} {v : Value} {xs : List Value} (h : W.ownsRow lo 38 9 v n xs) : ∀ k, v.ownBlock = some k → lo ≤ k := fun k hk => (ownsRow_lt h k hk).1
theorem own_shape {W : World} {lo n : Nat} {v : Value} {xs : List Value} (h : W.ownsRow lo 38 9 v n xs) : ∃ ad c, v = .slice ad n c := by
  rcases h.2 with ⟨h, h0⟩ | ⟨g, cap, cur, h, _⟩
  · exact ⟨none, 0, by rw [h, h0]⟩
  · exact ⟨_, _, h⟩
theorem way_take {W W' : World} {lo g n cap k b : Nat} {ps : List Pk} (h : W.ownsRow lo 38 9 (.slice (some ⟨g, 0, none⟩) n cap) n (pcells ps)) (hn : ps.length = n) (hu : Upd (fun i => b ≤ i) W W') (hg : g < b) :
    ∀ j u, (pcells (ps.take k))[j]? = some u → W'.cell? ((⟨g, 0, none⟩ : Addr).add j) = some u := by
  intro j u hj
  have hw := ownsRow_upd h hu (fun i hi => by simp [Value.ownBlock] at hi; omega)
  have hlt := (List.getElem?_eq_some_iff.1 hj).1
  rw [pcells_length, List.length_take] at hlt
  have hadd : (⟨g, 0, none⟩ : Addr).add j = ⟨g, j, none⟩ := by unfold Addr.add; split <;> simp_all
  rw [hadd, hw.cellAt j (by omega)]
  conv => lhs; rw [← List.take_append_drop k ps, pcells_append]
  rw [List.getElem?_append_left (by rw [pcells_length, List.length_take]; omega)]
  exact hj
theorem way_drop {W W' : World} {lo g n cap k b : Nat} {ps : List Pk} (h : W.ownsRow lo 38 9 (.slice (some ⟨g, 0, none⟩) n cap) n (pcells ps)) (hn : ps.length = n) (hu : Upd (fun i => b ≤ i) W W') (hg : g < b) :
    ∀ j u, (pcells (ps.drop (k + 1)))[j]? = some u → W'.cell? ((⟨g, (k + 1) * 9, none⟩ : Addr).add j) = some u := by
  intro j u hj
  have hw := ownsRow_upd h hu (fun i hi => by simp [Value.ownBlock] at hi; omega)
  have hlt := (List.getElem?_eq_some_iff.1 hj).1
  rw [pcells_length, List.length_drop] at hlt
  have hadd : (⟨g, (k + 1) * 9, none⟩ : Addr).add j = ⟨g, (k + 1) * 9 + j, none⟩ := by unfold Addr.add; split <;> simp_all
  rw [hadd, hw.cellAt _ (by omega)]
  conv => lhs; rw [← List.take_append_drop (k + 1) ps, pcells_append]
  have hl : (pcells (ps.take (k + 1))).length = (k + 1) * 9 := by rw [pcells_length, List.length_take]; omega
  rw [List.getElem?_append_right (by omega), hl, show (k + 1) * 9 + j - (k + 1) * 9 = j by omega]
  exact hj
theorem Try.info38 : (Try.prog.info? 38).map (fun i => (i.zero, i.size, i.bytes)) = some (some (.agg #[.int .i64 0, .int .i64 0, .int .i64 0, .int .i64 0, .bool false, .int .i64 0, .int .i64 0, .int .i64 0, .int .i64 0]), 9, 72) := by kernel_rfl
theorem pk_one (p : Pk) : ∀ u ∈ p.cells, u.oneCell' = true := by
  intro u hu
  simp [Pk.cells] at hu
  rcases hu with rfl | rfl | rfl | rfl | rfl | rfl | rfl | rfl | rfl <;> rfl
theorem pcells_one (ps : List Pk) : ∀ u ∈ pcells ps, u.oneCell' = true := by
  intro u hu
  obtain ⟨p, _, hp⟩ := List.mem_flatMap.1 hu
  exact pk_one p u hp
/-- LinkOrder's loop: what holds at the head of a round. -/
def OrdRel (w : World) (lo EB WB SB GB La Lb : Nat) (kq : Nat) (v8 : Value) (wr : World) : Prop :=
  ∃ (i : Nat) (v0 v1 w0 w1 : Value) (a0 a1 : Sd) (p0 p1 : List Pk), kq = 400 - i ∧ i ≤ 400 ∧ v8 = .int .i64 i ∧ OS i a0 a1 p0 p1 ∧
    Ord wr lo 0 1 EB WB SB GB La Lb v0 v1 w0 w1 a0.ls a1.ls p0 p1 (a0.s + a0.n) (a1.s + a1.n) a0.g a1.g ∧ Below w.heap.size w wr

/-- The first statement, in the order of the text, that p picks. -/
def pick (p : Code → Bool) : Code → Option Code
  | .seq a b => match pick p a with
    | some c => some c
    | none => pick p b
  | .block n c => if p (.block n c) then some (.block n c) else pick p c
  | .loop c => pick p c
  | .scope c => pick p c
  | .cond o a b => if p (.cond o a b) then some (.cond o a b) else match pick p a with
    | some c => some c
    | none => pick p b
  | .region n o d => if p (.region n o d) then some (.region n o d) else none
  | _ => none
def isRegion (n : Nat) : Code → Bool
  | .region k _ _ => k == n
  | _ => false
def isCond (n : Nat) : Code → Bool
  | .cond (.tmp k) _ _ => k == n
  | _ => false
def isBlock (n : Nat) : Code → Bool
  | .block k _ => k == n
  | _ => false
end Go.Proofs.Ytbbacdaenpildaa.X

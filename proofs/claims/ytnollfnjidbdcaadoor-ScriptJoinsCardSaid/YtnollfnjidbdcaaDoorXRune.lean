/- nibble: a hexadecimal digit's value, at every rune: below 0, where it is none. -/
import Derived.Test.YtnollfnjidbdcaaDoorXEnv
import Derived.Lib.OthersKept
import Derived.Lib.RuneBytes
import Derived.Lib.TrimU
import Derived.Laws.RangeString
import Derived.BigQuiet
import Derived.Deep.QuietTactic
import Derived.WalkLawsBesides
namespace Go.Proofs.YtnollfnjidbdcaaDoor.X
open Go.RowKit
set_option linter.unusedSimpArgs false
set_option linter.unusedVariables false

def dgS : ByteArray := ⟨#[48, 49, 50, 51, 52, 53, 54, 55, 56, 57, 97, 98, 99, 100, 101, 102]⟩
theorem dgS_list : dgS.data.toList = dgs := rfl

theorem dgS_small : ∀ c ∈ dgS.data.toList, c.toNat < 128 := by decide
theorem indexByte_miss (l : List UInt8) (x : UInt8) (h : ∀ c ∈ l, c.toNat = x.toNat → False) : Lib.indexByte l x = -1 := by
  induction l with
  | nil => rfl
  | cons b l ih =>
    have hb : ¬ (b == x) = true := fun e => h b (by simp) (by rw [beq_iff_eq.1 e])
    rw [Lib.indexByte, if_neg hb, ih (fun c hc => h c (by simp [hc]))]
    rfl

theorem dgS_at : ∀ k (h : k < dgS.size), (dgS[k]'h).toNat < 128 := by decide

/-- Some number below 0; what was there is as it was. -/
def RetNeg (w : World) (e : Ending) (w' : World) : Prop := ∃ m : Int, m < 0 ∧ e = .returned (.int .i64 m) ∧ Below w.heap.size w w'

set_option maxHeartbeats 2000000 in
set_option maxRecDepth 100000 in
theorem indexRune_err (w : World) : Calls Tryd.prog 65 #[.string dgS, .int .i32 65533] w (RetNeg w) := by
  go_enter Tryd.func65, Tryd.ntmps65
  go_wp2_with fail
  go_loopw [5, 6] (fun _ _ wr => ∃ pos : Nat, pos ≤ 16 ∧ wr.heap[w.heap.size]? = some (.stringIter dgS pos) ∧ Below w.heap.size w wr) (fun _ _ wr => 16 - wr.iterPos w.heap.size)
  case atStart => exact ⟨0, by omega, World.iter_heap w dgS 0, (Below.refl _ w).alloc (Nat.le_refl _) _⟩
  case round =>
    obtain ⟨pos, hps, hk, hnx⟩ := hrel
    have hd16 : dgS.size = 16 := rfl
    by_cases hp : pos < dgS.size
    · have h128 := dgS_at pos hp
      have hnext : ∀ ty, (Instr.next (.pointer (some ⟨w.heap.size, 0, none⟩)) true ty).run Tryd.prog wr = _ := fun ty => Lib.run_next_ascii_at wr w.heap.size dgS pos ty hk hp h128
      have hk1 := Lib.iterAt_heap wr w.heap.size dgS pos (pos + 1) hk
      have hnx1 : Below w.heap.size w (wr.iterAt w.heap.size dgS (pos + 1)) := Lib.below_iterAt hnx (Nat.le_refl _) dgS (pos + 1)
      have hmu : wr.iterPos w.heap.size = pos := by simp [World.iterPos, hk]
      generalize wr.iterAt w.heap.size dgS (pos + 1) = W1 at hnext hk1 hnx1
      obtain ⟨y, hy⟩ : ∃ y, dgS[pos]'hp = y := ⟨_, rfl⟩
      rw [hy] at h128
      have hne : ((y.toNat : Int) == 65533) = false := by rw [beq_eq_false_iff_ne]; omega
      have HN := Lib.hid hnx1
      have HK := Lib.hid hk1
      clear hnx hk hnx1 hk1
      go_wp2
      go_roundw
      case rel => exact ⟨pos + 1, by omega, HK.out, HN.out⟩
      case measure =>
        have hmu2 : W1.iterPos w.heap.size = pos + 1 := by simp [World.iterPos, HK.out]
        rw [hmu, hmu2]
        omega
    · have hnext : ∀ ty, (Instr.next (.pointer (some ⟨w.heap.size, 0, none⟩)) true ty).run Tryd.prog wr = _ := fun ty => Lib.run_next_end_at wr w.heap.size dgS pos ty hk hp
      have HN := Lib.hid hnx
      clear hnx hk
      go_wp2
      go_ret
      exact ⟨-1, by decide, rfl, HN.out⟩

set_option maxHeartbeats 2000000 in
set_option maxRecDepth 100000 in
theorem indexRune_far (r : Int) (h0 : 128 ≤ r) (h1 : r ≤ 1114111) (hv : Lib.validRune r = true) (h3 : (r == 65533) = false) (rs : ByteArray) (hE : Utf8.encode r = rs) (k : Nat) (hk : k = 1 ∨ k = 2 ∨ k = 3) (hs : rs.size = k + 1) (hx : 128 ≤ (rs[k]'(by omega)).toNat) (w : World) : Calls Tryd.prog 65 #[.string dgS, .int .i32 r] w (RetNeg w) := by
  have hlt : ¬ r < 128 := by omega
  have hw : IntKind.i64.wrap ((rs.size : Int) - 1) = k := by rw [hs]; rcases hk with rfl | rfl | rfl <;> decide
  have hks : k < rs.size := by omega
  have hk16 : k < 16 := by omega
  have hd16 : dgS.size = 16 := rfl
  have hn1 : ∀ k (h : k < 16), (dgS[k]'h).toNat < 128 := by decide
  obtain ⟨x, hxx⟩ : ∃ x, rs[k]'hks = x := ⟨_, rfl⟩
  rw [hxx] at hx
  obtain ⟨y, hyy⟩ : ∃ y, dgS[k]'(by omega) = y := ⟨_, rfl⟩
  have hyl : y.toNat < 128 := by rw [← hyy]; exact hn1 k hk16
  have hne : ((y.toNat : Int) != (x.toNat : Int)) = true := by rw [bne_iff_ne]; omega
  have hmiss : Lib.indexByte (dgS.extract (k + 1) 16).data.toList x = -1 := by
    rw [Lib.extract_data]
    refine indexByte_miss _ _ (fun c hc e => ?_)
    have hc := List.mem_of_mem_drop (List.mem_of_mem_take hc)
    have := dgS_small c hc
    omega
  have CI := Lib.hid (fun w : World => (Tryd.strings_IndexByte (dgS.extract (k + 1) 16) (x.toNat : Int) w).mono (R' := fun e w' => e = .returned (.int .i64 (-1)) ∧ w' = w) fun e w' ⟨he, hw⟩ => ⟨by rw [he, show ((x.toNat : Int)).toNat.toUInt8 = x by simp, hmiss], hw⟩)
  clear hn1 hmiss
  have hk1w : IntKind.i64.wrap ((k : Int) + 1) = (k : Int) + 1 := IntWalk.i64_in _ (by omega)
  have hk10 : (0 : Int) ≤ (k : Int) + 1 := by omega
  have hk1n : ((k : Int) + 1).toNat = k + 1 := by omega
  have hk116 : (k : Int) + 1 ≤ 16 := by omega
  go_enter Tryd.func65, Tryd.ntmps65
  go_wp2_with (go_at_call 80; refine (Tryd.utf8_ValidRune _ _).mono ?_; rintro e w' ⟨rfl, rfl⟩)
  go_step3
  go_wp2_with fail
  refine wp_loop_rounds 1 ?_
  rw [rounds_succ]
  go_wp2_with fail
  go_step3
  go_wp2_with fail
  go_quiet (fail)
  go_wp2_with fail
  have hB := Lib.hid (below_drewN' w' nq)
  generalize w'.drewN nq = wq at hB ⊢
  go_quiet ((go_at_call 42; exact Calls.quiet_of_same (CI.out _)))
  go_wp2_with fail
  rw [Exit.noGoto_ret]
  go_ret
  exact ⟨-1, by decide, rfl, hB.out.trans (below_drewN' wq _ |>.mono hB.out.size)⟩

def Far (rs : ByteArray) : Prop := ∃ k, (k = 1 ∨ k = 2 ∨ k = 3) ∧ rs.size = k + 1 ∧ ∀ h : k < rs.size, 128 ≤ (rs[k]'h).toNat
theorem encode_far (r : Int) (h0 : 128 ≤ r) (h1 : r ≤ 1114111) (hv : Lib.validRune r = true) : Far (Utf8.encode r) := by
  have hval : Utf8.valid r = true := by
    unfold Lib.validRune at hv
    unfold Utf8.valid
    simp at hv ⊢
    omega
  obtain ⟨c, rfl⟩ : ∃ c : Nat, r = c := ⟨r.toNat, by omega⟩
  have hlo : ∀ m : Nat, 128 ≤ (UInt8.ofNat (0x80 + m % 64)).toNat := fun m => by simp [UInt8.toNat_ofNat]; omega
  unfold Utf8.encode
  rw [if_pos hval]
  simp only [Int.toNat_natCast]
  rw [if_neg (by omega)]
  by_cases a : c < 0x800
  · rw [if_pos a]; exact ⟨1, .inl rfl, rfl, fun _ => hlo c⟩
  · rw [if_neg a]
    by_cases b : c < 0x10000
    · rw [if_pos b]; exact ⟨2, .inr (.inl rfl), rfl, fun _ => hlo c⟩
    · rw [if_neg b]; exact ⟨3, .inr (.inr rfl), rfl, fun _ => hlo c⟩

set_option maxHeartbeats 2000000 in
set_option maxRecDepth 100000 in
theorem indexRune_bad (r : Int) (h0 : 128 ≤ r) (hv : Lib.validRune r = false) (h3 : (r == 65533) = false) (w : World) : Calls Tryd.prog 65 #[.string dgS, .int .i32 r] w (RetNeg w) := by
  have hlt : ¬ r < 128 := by omega
  go_enter Tryd.func65, Tryd.ntmps65
  go_wp2_with (go_at_call 80; refine (Tryd.utf8_ValidRune _ _).mono ?_; rintro e w' ⟨rfl, rfl⟩)
  go_ret
  exact ⟨-1, by decide, rfl, Below.refl _ _⟩

theorem nibble_ascii (c : UInt8) (h : c.toNat < 128) (w : World) : Calls Tryd.prog 54 #[.int .i32 c.toNat] w (Ret w (.int .i64 (nib c))) := by
  have h' : (c.toNat : Int) < 128 := by omega
  have C := Lib.hid ((Tryd.strings_IndexRune_ascii dgS (c.toNat : Int) w (by omega) h').mono (R' := Ret w (.int .i64 (nib c))) fun e w' ⟨he, hw⟩ => ⟨by rw [he, show ((c.toNat : Int)).toNat.toUInt8 = c by simp]; rfl, by rw [hw]; exact Below.refl _ _⟩)
  clear h'
  go_enter Tryd.func54, Tryd.ntmps54
  go_wp2_with (go_at_call 65; refine C.out.mono ?_; rintro e w' ⟨rfl, hb⟩)
  go_ret
  exact ⟨rfl, hb⟩
theorem nibble_far (r : Int) (h0 : 128 ≤ r) (h1 : r ≤ 1114111) (w : World) : Calls Tryd.prog 54 #[.int .i32 r] w (RetNeg w) := by
  have C : Hid (Calls Tryd.prog 65 #[.string dgS, .int .i32 r] w (RetNeg w)) := by
    refine Lib.hid ?_
    by_cases h3 : r = 65533
    · subst h3; exact indexRune_err w
    · have h3' : (r == 65533) = false := by rw [beq_eq_false_iff_ne]; exact h3
      cases hv : Lib.validRune r
      · exact indexRune_bad r h0 hv h3' w
      · obtain ⟨k, hk, hs, hx⟩ := encode_far r h0 h1 hv
        exact indexRune_far r h0 h1 hv h3' _ rfl k hk hs (hx _) w
  go_enter Tryd.func54, Tryd.ntmps54
  go_wp2_with (go_at_call 65; refine C.out.mono ?_; rintro e w' ⟨m, hm, rfl, hb⟩)
  go_ret
  exact ⟨m, hm, rfl, hb⟩

/-- A rune that does not begin with a byte of ASCII. -/
theorem decode_far (s : ByteArray) (i : Nat) (h : i < s.size) (hb : ¬ (s[i]'h).toNat < 128) : 128 ≤ (Utf8.decode s i).1 ∧ (Utf8.decode s i).1 ≤ 1114111 := by
  refine ⟨?_, Lib.rune_le s i⟩
  have hg : ¬ (s.get! i).toNat < 128 := by
    have e : s.get! i = s[i]'h := by
      show s.data[i]! = s.data[i]'h
      exact getElem!_pos s.data i h
    rw [e]; exact hb
  rw [Lib.decode_at]
  unfold Lib.decodeN
  rw [if_neg hg]
  repeat' split
  all_goals first | (simp [Utf8.runeError]; done) | (simp only; omega) | (simp at *; omega)
end Go.Proofs.YtnollfnjidbdcaaDoor.X

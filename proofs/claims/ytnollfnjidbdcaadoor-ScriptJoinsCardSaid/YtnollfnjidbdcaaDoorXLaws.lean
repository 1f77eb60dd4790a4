/- What is printed comes again: the plain laws. No program in it. -/
import Derived.Test.YtnollfnjidbdcaaDoorXPlain
import Derived.Lib.Strings
namespace Go.Proofs.YtnollfnjidbdcaaDoor.X
open Go

theorem parse_snoc : ∀ (l : List UInt8) (acc m : Nat) (c : UInt8), Lib.parseUint10 acc l = .ok m → 48 ≤ c.toNat → c.toNat ≤ 57 → m < 1844674407370955162 → m * 10 + (c.toNat - 48) < 18446744073709551616 → Lib.parseUint10 acc (l ++ [c]) = .ok (m * 10 + (c.toNat - 48))
  | [], acc, m, c, h, h1, h2, h3, h4 => by
    simp only [Lib.parseUint10] at h
    injection h with h
    subst h
    simp only [List.nil_append, Lib.parseUint10]
    rw [if_pos ⟨h1, h2⟩, if_neg (by omega), if_neg (by omega)]
  | d :: r, acc, m, c, h, h1, h2, h3, h4 => by
    simp only [List.cons_append, Lib.parseUint10] at h ⊢
    split at h
    · rename_i hd
      rw [if_pos hd]
      split at h
      · cases h
      · rename_i ha
        rw [if_neg ha]
        split at h
        · cases h
        · rename_i hb
          rw [if_neg hb]
          exact parse_snoc r _ m c h h1 h2 h3 h4
    · cases h
theorem digit_nat (i : Nat) (h : i < 10) : (UInt8.ofNat (48 + i)).toNat = 48 + i := by
  rw [UInt8.toNat_ofNat']
  omega
theorem digits_mem (u : Nat) : ∀ c ∈ Lib.decDigits u, 48 ≤ c.toNat ∧ c.toNat ≤ 57 := by
  induction u using Nat.strongRecOn with
  | ind u ih =>
    intro c hc
    rw [Lib.decDigits] at hc
    split at hc
    · rename_i h
      simp only [List.mem_cons, List.not_mem_nil, or_false] at hc
      subst hc
      rw [digit_nat u h]; omega
    · rename_i h
      rcases List.mem_append.1 hc with hc | hc
      · exact ih _ (by omega) c hc
      · simp only [List.mem_cons, List.not_mem_nil, or_false] at hc
        subst hc
        rw [digit_nat _ (by omega)]; omega
theorem digits_ne (u : Nat) : Lib.decDigits u ≠ [] := by
  rw [Lib.decDigits]; split <;> simp
theorem parse_digits (u : Nat) (hu : u < 18446744073709551616) : Lib.parseUint10 0 (Lib.decDigits u) = .ok u := by
  induction u using Nat.strongRecOn with
  | ind u ih =>
    rw [Lib.decDigits]
    split
    · rename_i h
      simp only [Lib.parseUint10]
      rw [digit_nat u h, if_pos (by omega), if_neg (by omega), if_neg (by omega)]
      congr 1; omega
    · rename_i h
      have := parse_snoc (Lib.decDigits (u / 10)) 0 (u / 10) (UInt8.ofNat (48 + u % 10)) (ih _ (by omega) (by omega)) (by rw [digit_nat _ (by omega)]; omega) (by rw [digit_nat _ (by omega)]; omega) (by omega) (by rw [digit_nat _ (by omega)]; omega)
      rw [this, digit_nat _ (by omega)]
      congr 1; omega
theorem atoi_itoa (n : Int) (h0 : -9223372036854775808 ≤ n) (h1 : n ≤ 9223372036854775807) : Lib.atoiAll (Lib.itoa n) = .ok n := by
  unfold Lib.itoa
  split
  · rename_i h
    rw [Lib.atoiAll_minus, Lib.parseMag, if_neg (digits_ne _), parse_digits _ (by omega)]
    simp only [Lib.signed]
    rw [if_neg (by omega)]
    congr 1; omega
  · rename_i h
    have hne := digits_ne n.toNat
    have hm := digits_mem n.toNat
    have hp := parse_digits n.toNat (by omega)
    cases hd : Lib.decDigits n.toNat with
    | nil => exact absurd hd hne
    | cons c r =>
      have hc := hm c (by rw [hd]; simp)
      rw [Lib.atoiAll_plain c r (by omega) (by omega), Lib.parseMag, if_neg (by simp), ← hd, hp]
      simp only [Lib.signless]
      rw [if_neg (by omega)]
      congr 1; omega
theorem numL_itoa (n : Int) (h0 : -9223372036854775808 ≤ n) (h1 : n ≤ 9223372036854775807) : numL (Lib.itoa n) = some n := by
  unfold numL numV
  rw [atoi_itoa n h0 h1]
  simp

theorem splitL_word : ∀ (a : List UInt8), (∀ c ∈ a, c ≠ 32) → splitL a = [a]
  | [], _ => rfl
  | c :: r, h => by
    unfold splitL
    rw [if_neg (h c (by simp)), splitL_word r (fun x hx => h x (by simp [hx]))]
theorem splitL_cut : ∀ (a r : List UInt8), (∀ c ∈ a, c ≠ 32) → splitL (a ++ 32 :: r) = a :: splitL r
  | [], r, _ => by simp [splitL]
  | c :: a, r, h => by
    simp only [List.cons_append]
    rw [splitL, if_neg (h c (by simp)), splitL_cut a r (fun x hx => h x (by simp [hx]))]
theorem linesL_cut : ∀ (a r : List UInt8), (∀ c ∈ a, c ≠ 10) → linesL (a ++ 10 :: r) = (a ++ [10]) :: linesL r
  | [], r, _ => by simp [linesL]
  | c :: a, r, h => by
    simp only [List.cons_append]
    rw [linesL, if_neg (h c (by simp)), linesL_cut a r (fun x hx => h x (by simp [hx]))]
theorem itoa_mem (n : Int) : ∀ c ∈ Lib.itoa n, c ≠ 32 ∧ c ≠ 10 := by
  intro c hc
  have hd : ∀ u, c ∈ Lib.decDigits u → c ≠ 32 ∧ c ≠ 10 := fun u h => by
    have := digits_mem u c h
    constructor <;> (rintro rfl; revert this; decide)
  unfold Lib.itoa at hc
  split at hc
  · rcases List.mem_cons.1 hc with hc | hc
    · subst hc; decide
    · exact hd _ hc
  · exact hd _ hc
theorem dgs_ok : ∀ i : Fin 16, dgs.getD i.val 0 ≠ 32 ∧ dgs.getD i.val 0 ≠ 10 ∧ nib (dgs.getD i.val 0) = (i.val : Int) := by decide
theorem hexL_mem (l : List UInt8) : ∀ c ∈ hexL l, c ≠ 32 ∧ c ≠ 10 := by
  intro c hc
  unfold hexL at hc
  obtain ⟨x, _, hx⟩ := List.mem_flatMap.1 hc
  have h1 := dgs_ok ⟨x.toNat / 16, by have := x.toNat_lt; omega⟩
  have h2 := dgs_ok ⟨x.toNat % 16, by omega⟩
  simp only [List.mem_cons, List.not_mem_nil, or_false] at hx
  rcases hx with rfl | rfl
  · exact ⟨h1.1, h1.2.1⟩
  · exact ⟨h2.1, h2.2.1⟩
theorem text_mem (x : Wd) : ∀ c ∈ x.text, c ≠ 32 ∧ c ≠ 10 := by
  cases x with
  | num n => exact itoa_mem n
  | bytes l =>
    intro c hc
    rcases List.mem_cons.1 hc with hc | hc
    · subst hc; decide
    · exact hexL_mem l c hc
theorem splitL_words : ∀ (ws : List Wd), ws ≠ [] → splitL (wordsL ws) = ws.map Wd.text
  | [], h => absurd rfl h
  | [x], _ => by
    unfold wordsL
    exact splitL_word _ (fun c hc => (text_mem x c hc).1)
  | x :: y :: r, _ => by
    unfold wordsL
    rw [splitL_cut _ _ (fun c hc => (text_mem x c hc).1), splitL_words (y :: r) (by simp)]
    rfl
theorem words_no10 : ∀ (ws : List Wd), ∀ c ∈ wordsL ws, c ≠ 10
  | [], c, h => by simp [wordsL] at h
  | [x], c, h => (text_mem x c h).2
  | x :: y :: r, c, h => by
    unfold wordsL at h
    rcases List.mem_append.1 h with h | h
    · exact (text_mem x c h).2
    · rcases List.mem_cons.1 h with h | h
      · subst h; decide
      · exact words_no10 (y :: r) c h
theorem pairs_hex : ∀ l : List UInt8, pairsL (hexL l) = some l
  | [] => rfl
  | x :: r => by
    have h1 := (dgs_ok ⟨x.toNat / 16, by have := x.toNat_lt; omega⟩).2.2
    have h2 := (dgs_ok ⟨x.toNat % 16, by omega⟩).2.2
    have hx : hexL (x :: r) = dgs.getD (x.toNat / 16) 0 :: dgs.getD (x.toNat % 16) 0 :: hexL r := rfl
    rw [hx]
    unfold pairsL
    simp only at h1 h2
    rw [h1, h2, if_neg (by omega), pairs_hex r]
    simp only [Option.map_some, Option.some.injEq, List.cons.injEq, and_true]
    have hv : ((x.toNat / 16 : Nat) : Int) * 16 + ((x.toNat % 16 : Nat) : Int) = (x.toNat : Int) := by omega
    rw [hv]
    simp
theorem suffix_end (l : List UInt8) : Lib.hasSuffix (l ++ [10]) [10] = true := by
  unfold Lib.hasSuffix
  exact List.isSuffixOf_iff_suffix.2 ⟨l, rfl⟩
theorem trim_end (l : List UInt8) : Lib.trimSuffix (l ++ [10]) [10] = l := by
  unfold Lib.trimSuffix
  rw [suffix_end, if_pos rfl]
  simp
def St.ok (x : St) : Prop := (-9223372036854775808 ≤ x.k ∧ x.k ≤ 9223372036854775807) ∧ (-9223372036854775808 ≤ x.a ∧ x.a ≤ 9223372036854775807) ∧ (-9223372036854775808 ≤ x.b ∧ x.b ≤ 9223372036854775807)
theorem one_line (x : St) (h : x.ok) : oneL (wordsL x.words) = some x := by
  unfold oneL
  rw [splitL_words _ (by simp [St.words])]
  have h1 : unhexL ((x.words.map Wd.text).getLastD []) = some x.d := by
    show unhexL (120 :: hexL x.d) = some x.d
    rw [unhexL, if_pos rfl, pairs_hex]
  have h2 : numsL ((x.words.map Wd.text).dropLast) = some [x.k, x.a, x.b] := by
    show numsL [Lib.itoa x.k, Lib.itoa x.a, Lib.itoa x.b] = _
    simp only [numsL, numL_itoa x.k h.1.1 h.1.2, numL_itoa x.a h.2.1.1 h.2.1.2, numL_itoa x.b h.2.2.1 h.2.2.2]
  rw [h1, h2]
theorem step_line (x : St) (h : x.ok) : stepOf (lineL x.words) = some x := by
  unfold stepOf lineL
  rw [suffix_end, if_pos rfl, trim_end, one_line x h]
theorem lines_print : ∀ (l : List St) (r : List UInt8), linesL (printL l ++ r) = l.map (fun x => lineL x.words) ++ linesL r
  | [], r => rfl
  | x :: l, r => by
    have e : printL (x :: l) ++ r = wordsL x.words ++ 10 :: (printL l ++ r) := by simp [printL, lineL]
    rw [e, linesL_cut _ _ (words_no10 _), lines_print l r]
    rfl
theorem parse_print : ∀ (l : List St) (n : Nat) (out : List St) (r : List (List UInt8)), (∀ x ∈ l, x.ok) → parseGo n out (l.map (fun x => lineL x.words) ++ r) = parseGo (n + l.length) (out ++ l) r
  | [], n, out, r, _ => by simp
  | x :: l, n, out, r, h => by
    simp only [List.map_cons, List.cons_append]
    rw [parseGo, step_line x (h x (by simp))]
    simp only
    rw [parse_print l (n + 1) (out ++ [x]) r (fun y hy => h y (by simp [hy]))]
    simp only [List.length_cons, List.append_assoc, List.cons_append, List.nil_append]
    congr 1; omega
theorem parseL_print (l : List St) (h : ∀ x ∈ l, x.ok) : parseL (printL l) = (l, 0, 0) := by
  have h1 := lines_print l []
  rw [List.append_nil] at h1
  unfold parseL
  rw [h1, parse_print l 0 [] _ h]
  rfl
theorem nums_itoa : ∀ ns : List Int, (∀ n ∈ ns, -9223372036854775808 ≤ n ∧ n ≤ 9223372036854775807) → numsL (ns.map Lib.itoa) = some ns
  | [], _ => rfl
  | n :: r, h => by
    simp only [List.map_cons, numsL]
    rw [numL_itoa n (h n (by simp)).1 (h n (by simp)).2, nums_itoa r (fun m hm => h m (by simp [hm]))]
theorem setL_setting (ns : List Int) (h18 : ns.length = 18) (h : ∀ n ∈ ns, -9223372036854775808 ≤ n ∧ n ≤ 9223372036854775807) : setL (settingL ns) = some ns := by
  have hne : ns.map Wd.num ≠ [] := by intro e; have := congrArg List.length e; simp at this; rw [this] at h18; cases h18
  have e : (ns.map Wd.num).map Wd.text = ns.map Lib.itoa := by rw [List.map_map]; rfl
  unfold setL settingL lineL
  rw [suffix_end, if_pos rfl, trim_end, splitL_words _ hne, e, nums_itoa ns h]
  simp [h18]
end Go.Proofs.YtnollfnjidbdcaaDoor.X

/- ScriptSets: the law's function. -/
import Derived.Test.YtnollfnjidbdcaaDoorXRefU
import Derived.Test.YtnollfnjidbdcaaDoorXAns
import Derived.Laws.StructEq
import Derived.ChangeKeysEq
namespace Go.Proofs.YtnollfnjidbdcaaDoor.X
open Go.RowKit
set_option linter.unusedSimpArgs false
set_option linter.unusedVariables false

theorem cfgA_inj {f g : Nat → Int} (h : cfgL f = cfgL g) : cfgA f = cfgA g := by rw [cfgA_is, cfgA_is, h]
theorem zs18_is : zs18 = cfgA (fun _ => 0) := rfl
/-- What a line comes to. -/
theorem set_same (l : List UInt8) : ∃ (g : Nat → Int) (ok : Bool), ∀ (w : World) (e : Ending) (w' : World), SetPost l w e w' → e = .returned (.tuple #[.agg (cfgA g), .bool ok]) ∧ Below w.heap.size w w' := by
  cases h : setL l with
  | none =>
    refine ⟨fun _ => 0, false, fun w e w' hp => ?_⟩
    obtain ⟨hb, hp⟩ := hp
    rw [h] at hp
    exact ⟨by rw [hp, zs18_is], hb⟩
  | some ns =>
    by_cases hf : ∃ f, ns = cfgL f
    · obtain ⟨f, hf⟩ := hf
      refine ⟨f, true, fun w e w' hp => ?_⟩
      obtain ⟨hb, hp⟩ := hp
      rw [h] at hp
      obtain ⟨g, hg, _, he⟩ := hp
      exact ⟨by rw [he, cfgA_inj (hg.symm.trans hf)], hb⟩
    · refine ⟨fun _ => 0, true, fun w e w' hp => ?_⟩
      obtain ⟨hb, hp⟩ := hp
      rw [h] at hp
      obtain ⟨g, hg, _, he⟩ := hp
      exact absurd ⟨g, hg⟩ hf
theorem cfgL_bounds (f : Nat → Int) (hf : ∀ k, i64ok (f k)) : ∀ n ∈ cfgL f, -9223372036854775808 ≤ n ∧ n ≤ 9223372036854775807 := by
  intro n hn
  simp only [cfgL, List.mem_cons, List.not_mem_nil, or_false] at hn
  rcases hn with h | h | h | h | h | h | h | h | h | h | h | h | h | h | h | h | h | h <;> (subst h; exact hf _)
theorem set_back (f : Nat → Int) (hf : ∀ k, i64ok (f k)) (w : World) (e : Ending) (w' : World) (h : SetPost (settingL (cfgL f)) w e w') : e = .returned (.tuple #[.agg (cfgA f), .bool true]) ∧ Below w.heap.size w w' := by
  obtain ⟨hb, hp⟩ := h
  rw [setL_setting _ rfl (cfgL_bounds f hf)] at hp
  obtain ⟨g, hg, _, he⟩ := hp
  exact ⟨by rw [he, cfgA_inj hg], hb⟩
theorem setting_len (f : Nat → Int) (hf : ∀ k, i64ok (f k)) : (settingL (cfgL f)).length ≤ 1000 := by
  have h2 := nums_words_len _ (cfgL_mem f hf)
  have h3 : (cfgL f).length = 18 := rfl
  unfold settingL lineL
  rw [List.length_append]
  simp only [List.length_cons, List.length_nil]
  omega

theorem fields23 : Tryd.prog.underlying 23 = some (.struct (Tryd.prog.fieldsOf 23)) := by kernel_rfl
theorem plain3 : Tryd.prog.plainKey 3 = true := by kernel_rfl
theorem eqFields_same (f : Nat → Int) (w : World) (d : Nat) : ∀ fs : List Field, (∀ x ∈ fs, x.type = 3 ∧ x.offset < 18) → (Op.eqFields (d + 1) (cfgA f) (cfgA f) fs).run Tryd.prog w = .ok true w
  | [], _ => by simp [Op.eqFields]
  | x :: r, h => by
    have ih := eqFields_same f w d r (fun y hy => h y (by simp [hy]))
    obtain ⟨h1, h2⟩ := h x (by simp)
    unfold Op.eqFields
    split
    · simp only [Sem.run_bind]
      rw [h1, run_part_plain w plain3 (cfgA_get f _ h2)]
      simp only [Result.andThen_ok]
      rw [run_part_plain w plain3 (cfgA_get f _ h2)]
      simp only [Result.andThen_ok]
      rw [run_equalIn_int w d 3 .i64 .i64 _ _ Tryd.underlying3]
      simp only [Result.andThen_ok, beq_self_eq_true, Bool.not_true, Bool.false_eq_true, if_false]
      exact ih
    · exact ih
theorem fields23_ok : ((Tryd.prog.fieldsOf 23).toList.all fun x => x.type == 3 && decide (x.offset < 18)) = true := by kernel_rfl
theorem equal23 (f : Nat → Int) (w : World) : (Op.equalIn 10000 23 (.agg (cfgA f)) (.agg (cfgA f))).run Tryd.prog w = .ok true w := by
  rw [run_equalIn_struct w 9999 23 _ _ fields23 (by kernel_rfl)]
  refine eqFields_same f w 9998 _ fun x hx => ?_
  have := List.all_eq_true.1 fields23_ok x hx
  simpa using this
theorem wpList_eql23 {ops : Array Oper} {rest : List Oper} {o : Oper} {a : Act} {w : World} {Q : Exit → Act → World → Prop} (hgd : o.guard = none) (x y : Operand) (t : TypeId) (ho : o.op = .binOp .eql 23 x y t) (f : Nat → Int)
    (hx : a.eval x = .agg (cfgA f)) (hy : a.eval y = .agg (cfgA f)) (h : wpList Tryd.prog ops Q rest (a.put o.dst (.bool true)) w) : wpList Tryd.prog ops Q (o :: rest) a w := by
  refine wpList_plain hgd fun K hK => ?_
  have hm : Tryd.prog.eqGuardType Tryd.prog.depth 23 = false := by kernel_rfl
  have h1 := run_eqGuard_agg (P := Tryd.prog) w .eql 23 x y (cfgA f) (cfgA f) hm
  have h2 := run_eql_struct (P := Tryd.prog) w 23 (cfgA f) (cfgA f)
  rw [equal23] at h2
  simp only [Result.andThen_ok] at h2
  unfold Oper.wp
  simp [execOp, ho, hx, hy, h1, h2, Result.andThen]
  exact hK _ _ h
theorem wpList_eql23W {ops : Array Oper} {rest : List Oper} {o : Oper} {a : Act} {w : World} {Q : Exit → Act → World → Prop} (hw : Region.wanted o (yielded ops a.tmps) = true) (x y : Operand) (t : TypeId) (ho : o.op = .binOp .eql 23 x y t) (f : Nat → Int)
    (hx : a.eval x = .agg (cfgA f)) (hy : a.eval y = .agg (cfgA f)) (h : wpList Tryd.prog ops Q rest (a.put o.dst (.bool true)) w) : wpList Tryd.prog ops Q (o :: rest) a w := by
  refine BigFrame.wpList_want hw fun K hK => ?_
  have hm : Tryd.prog.eqGuardType Tryd.prog.depth 23 = false := by kernel_rfl
  have h1 := run_eqGuard_agg (P := Tryd.prog) w .eql 23 x y (cfgA f) (cfgA f) hm
  have h2 := run_eql_struct (P := Tryd.prog) w 23 (cfgA f) (cfgA f)
  rw [equal23] at h2
  simp only [Result.andThen_ok] at h2
  unfold Oper.wp
  simp [execOp, ho, hx, hy, h1, h2, Result.andThen]
  exact hK _ _ h
theorem wpList_load23W {ops : Array Oper} {rest : List Oper} {o : Oper} {a : Act} {w : World} {Q : Exit → Act → World → Prop} (hw : Region.wanted o (yielded ops a.tmps) = true) (x : Operand) (ho : o.op = .load 23 x) (g : Nat)
    (hx : a.eval x = .pointer (some ⟨g, 0, none⟩)) (c : Array Value) (hg : w.heap[g]? = some (.cells c 23 (0, 0))) (hc : c.size = 18)
    (h : wpList Tryd.prog ops Q rest (a.put o.dst (.agg c)) w) : wpList Tryd.prog ops Q (o :: rest) a w :=
  BigFrame.wpList_want hw fun _ hK => wp_load_row 23 x ho g hx 23 c (0, 0) _ hg Tryd.underlying23 rfl (by rw [hc]; kernel_rfl) (hK _ _ h)
theorem new23 (W : World) (A : Array Value) : Below W.heap.size W ((W.alloc (.cells zs18 23)).setRow W.heap.size A) ∧ ((W.alloc (.cells zs18 23)).setRow W.heap.size A).heap[W.heap.size]? = some (.cells A 23 (0, 0)) :=
  ⟨below_setRow ((Below.refl _ W).alloc (Nat.le_refl _) _) (Nat.le_refl _) _, setRow_heap _ _ _ _ _ _ (heap_alloc_new _ _)⟩

set_option maxHeartbeats 2000000 in
set_option maxRecDepth 100000 in
theorem sets_any (f : Nat → Int) (hf : ∀ k, i64ok (f k)) (s : ByteArray) (hs : s.size ≤ 9223372036854775807) (w : World) (E : Env w) : Calls Tryd.prog 3 #[.agg (cfgA f), .string s] w (Ret w (.bool true)) := by
  have hB1 : Below w.heap.size w (w.alloc (.cells (cfgA f) 23)) := (Below.refl _ w).alloc (Nat.le_refl _) _
  have hC1 := heap_alloc_new w (.cells (cfgA f) 23)
  have EN := Lib.hid E
  have HF := Lib.hid hf
  have HB1 := Lib.hid hB1
  have HC1 := Lib.hid hC1
  clear E hf hB1 hC1
  by_cases hl : 2000 < s.size
  · have hli : (2000 : Int) < s.size := by omega
    go_enter Tryd.func3, Tryd.ntmps3
    go_wp2_with fail
    refine (answers_any _ (EN.out.below HB1.out EN.out.gl)).mono ?_
    rintro e w2 ⟨rfl, hb2⟩
    go_wp2_with fail
    go_ret
    exact ⟨rfl, HB1.out.trans (hb2.mono HB1.out.size)⟩
  · have hli : ¬ (2000 : Int) < s.size := by omega
    have hls : s.size ≤ 1000000 := by omega
    obtain ⟨t, ht⟩ : ∃ t : ByteArray, ⟨(settingL (cfgL f)).toArray⟩ = t := ⟨_, rfl⟩
    have htd : t.data.toList = settingL (cfgL f) := by rw [← ht]
    have hts : t.size ≤ 1000000 := by rw [size_is, htd]; have := setting_len f HF.out; omega
    have CT := fun w' E' => set_any t hts w' E'
    rw [htd] at CT
    obtain ⟨g, ok, hg⟩ := set_same s.data.toList
    have HT := Lib.hid ht
    have HCT := Lib.hid CT
    have HG := Lib.hid hg
    have HLS := Lib.hid hls
    clear ht htd hts CT hg hls
    obtain ⟨W1, hW1⟩ : ∃ W1, w.alloc (.cells (cfgA f) 23) = W1 := ⟨_, rfl⟩
    rw [hW1] at HB1 HC1
    go_enter Tryd.func3, Tryd.ntmps3
    go_wp2_with (refine wpList_load23 rfl (.tmp 2) rfl w.heap.size rfl _ HC1.out (cfgA_size f) ?_)
    have C8 := setting_any f HF.out W1 (EN.out.below HB1.out EN.out.gl)
    rw [HT.out] at C8
    refine C8.mono ?_
    clear C8 hW1
    rintro e W2 ⟨rfl, hb2⟩
    have HC2 := Lib.hid ((hb2.block _ (Array.getElem?_eq_some_iff.1 HC1.out).1).trans HC1.out)
    have HB2 := Lib.hid (HB1.out.trans (hb2.mono HB1.out.size))
    clear hb2 HB1 HC1
    go_wp2_with fail
    refine (HCT.out W2 (EN.out.below HB2.out EN.out.gl)).mono ?_
    rintro e W3 hp
    obtain ⟨rfl, hb3⟩ := set_back f HF.out W2 e W3 hp
    have HC3 := Lib.hid ((hb3.block _ (Array.getElem?_eq_some_iff.1 HC2.out).1).trans HC2.out)
    have HB3 := Lib.hid (HB2.out.trans (hb3.mono HB2.out.size))
    clear hp hb3 HB2 HC2 HCT
    go_wp2_with (refine wpList_store23 rfl (.tmp 6) (.tmp 21) rfl W3.heap.size rfl (cfgA f) rfl zs18 (heap_alloc_new _ _) rfl rfl (cfgA_one f) ?_)
    obtain ⟨n4, c4⟩ := new23 W3 (cfgA f)
    unfold zs18 at n4 c4
    obtain ⟨W4, hW4⟩ : ∃ W4, (W3.alloc (.cells #[.int .i64 0, .int .i64 0, .int .i64 0, .int .i64 0, .int .i64 0, .int .i64 0, .int .i64 0, .int .i64 0, .int .i64 0, .int .i64 0, .int .i64 0, .int .i64 0, .int .i64 0, .int .i64 0, .int .i64 0, .int .i64 0, .int .i64 0, .int .i64 0] 23)).setRow W3.heap.size (cfgA f) = W4 := ⟨_, rfl⟩
    rw [hW4] at n4 c4 ⊢
    clear hW4
    have HD4 := Lib.hid c4
    have HC4 := Lib.hid ((n4.block _ (Array.getElem?_eq_some_iff.1 HC3.out).1).trans HC3.out)
    have HB4 := Lib.hid (HB3.out.trans (n4.mono HB3.out.size))
    obtain ⟨d, hd⟩ : ∃ d, W3.heap.size = d := ⟨_, rfl⟩
    rw [hd] at HD4 ⊢
    clear n4 c4 hd HB3 HC3
    refine (set_any s HLS.out W4 (EN.out.below HB4.out EN.out.gl)).mono ?_
    rintro e W5 hp
    obtain ⟨rfl, hb5⟩ := HG.out W4 e W5 hp
    have HD5 := Lib.hid ((hb5.block _ (Array.getElem?_eq_some_iff.1 HD4.out).1).trans HD4.out)
    have HC5 := Lib.hid ((hb5.block _ (Array.getElem?_eq_some_iff.1 HC4.out).1).trans HC4.out)
    have HB5 := Lib.hid (HB4.out.trans (hb5.mono HB4.out.size))
    clear hp hb5 HB4 HC4 HD4
    go_wp2_with (refine wpList_store23 rfl (.tmp 8) (.tmp 26) rfl W5.heap.size rfl (cfgA g) rfl zs18 (heap_alloc_new _ _) rfl rfl (cfgA_one g) ?_)
    obtain ⟨n6, c6⟩ := new23 W5 (cfgA g)
    unfold zs18 at n6 c6
    obtain ⟨W6, hW6⟩ : ∃ W6, (W5.alloc (.cells #[.int .i64 0, .int .i64 0, .int .i64 0, .int .i64 0, .int .i64 0, .int .i64 0, .int .i64 0, .int .i64 0, .int .i64 0, .int .i64 0, .int .i64 0, .int .i64 0, .int .i64 0, .int .i64 0, .int .i64 0, .int .i64 0, .int .i64 0, .int .i64 0] 23)).setRow W5.heap.size (cfgA g) = W6 := ⟨_, rfl⟩
    rw [hW6] at n6 c6 ⊢
    clear hW6
    have HE6 := Lib.hid c6
    have HD6 := Lib.hid ((n6.block _ (Array.getElem?_eq_some_iff.1 HD5.out).1).trans HD5.out)
    have HC6 := Lib.hid ((n6.block _ (Array.getElem?_eq_some_iff.1 HC5.out).1).trans HC5.out)
    have HB6 := Lib.hid (HB5.out.trans (n6.mono HB5.out.size))
    obtain ⟨a, ha⟩ : ∃ a, W5.heap.size = a := ⟨_, rfl⟩
    rw [ha] at HE6 ⊢
    clear n6 c6 ha HB5 HC5 HD5
    refine (refSet_any s HLS.out W6).mono ?_
    rintro e W7 hp
    obtain ⟨rfl, hb7⟩ := HG.out W6 e W7 hp
    have HE7 := Lib.hid ((hb7.block _ (Array.getElem?_eq_some_iff.1 HE6.out).1).trans HE6.out)
    have HD7 := Lib.hid ((hb7.block _ (Array.getElem?_eq_some_iff.1 HD6.out).1).trans HD6.out)
    have HC7 := Lib.hid ((hb7.block _ (Array.getElem?_eq_some_iff.1 HC6.out).1).trans HC6.out)
    have HB7 := Lib.hid (HB6.out.trans (hb7.mono HB6.out.size))
    clear hp hb7 HB6 HC6 HD6 HE6
    go_wp2_with (refine wpList_store23 rfl (.tmp 10) (.tmp 31) rfl W7.heap.size rfl (cfgA g) rfl zs18 (heap_alloc_new _ _) rfl rfl (cfgA_one g) ?_)
    obtain ⟨n8, c8⟩ := new23 W7 (cfgA g)
    unfold zs18 at n8 c8
    obtain ⟨W8, hW8⟩ : ∃ W8, (W7.alloc (.cells #[.int .i64 0, .int .i64 0, .int .i64 0, .int .i64 0, .int .i64 0, .int .i64 0, .int .i64 0, .int .i64 0, .int .i64 0, .int .i64 0, .int .i64 0, .int .i64 0, .int .i64 0, .int .i64 0, .int .i64 0, .int .i64 0, .int .i64 0, .int .i64 0] 23)).setRow W7.heap.size (cfgA g) = W8 := ⟨_, rfl⟩
    rw [hW8] at n8 c8 ⊢
    clear hW8
    have HF8 := Lib.hid c8
    have HE8 := Lib.hid ((n8.block _ (Array.getElem?_eq_some_iff.1 HE7.out).1).trans HE7.out)
    have HD8 := Lib.hid ((n8.block _ (Array.getElem?_eq_some_iff.1 HD7.out).1).trans HD7.out)
    have HC8 := Lib.hid ((n8.block _ (Array.getElem?_eq_some_iff.1 HC7.out).1).trans HC7.out)
    have HB8 := Lib.hid (HB7.out.trans (n8.mono HB7.out.size))
    obtain ⟨b, hb⟩ : ∃ b, W7.heap.size = b := ⟨_, rfl⟩
    rw [hb] at HF8 ⊢
    clear n8 c8 hb HB7 HC7 HD7 HE7
    refine (answers_any W8 (EN.out.below HB8.out EN.out.gl)).mono ?_
    rintro e W9 ⟨rfl, hb9⟩
    have HF9 := Lib.hid ((hb9.block _ (Array.getElem?_eq_some_iff.1 HF8.out).1).trans HF8.out)
    have HE9 := Lib.hid ((hb9.block _ (Array.getElem?_eq_some_iff.1 HE8.out).1).trans HE8.out)
    have HD9 := Lib.hid ((hb9.block _ (Array.getElem?_eq_some_iff.1 HD8.out).1).trans HD8.out)
    have HC9 := Lib.hid ((hb9.block _ (Array.getElem?_eq_some_iff.1 HC8.out).1).trans HC8.out)
    have HB9 := Lib.hid (HB8.out.trans (hb9.mono HB8.out.size))
    clear hb9 HB8 HC8 HD8 HE8 HF8
    have CR := refSetting_any f HF.out W9
    rw [HT.out] at CR
    have HCR := Lib.hid CR
    clear CR
    go_wp2_with (first
      | (go_at_call 11; refine HCR.out.mono ?_; clear HCR; rintro e W10 ⟨rfl, hb10⟩; have HF10 := Lib.hid ((hb10.block _ (Array.getElem?_eq_some_iff.1 HF9.out).1).trans HF9.out); have HE10 := Lib.hid ((hb10.block _ (Array.getElem?_eq_some_iff.1 HE9.out).1).trans HE9.out); have HD10 := Lib.hid ((hb10.block _ (Array.getElem?_eq_some_iff.1 HD9.out).1).trans HD9.out); have HC10 := Lib.hid ((hb10.block _ (Array.getElem?_eq_some_iff.1 HC9.out).1).trans HC9.out); have HB10 := Lib.hid (HB9.out.trans (hb10.mono HB9.out.size)); clear hb10 HF9 HE9 HD9 HC9 HB9)
      | (refine wpList_load23W rfl (.tmp 2) rfl w.heap.size rfl _ HC9.out (cfgA_size f) ?_)
      | (refine wpList_load23W rfl (.tmp 2) rfl w.heap.size rfl _ HC10.out (cfgA_size f) ?_)
      | (refine wpList_load23W rfl (.tmp 6) rfl d rfl _ HD10.out (cfgA_size f) ?_)
      | (refine wpList_load23W rfl (.tmp 8) rfl a rfl _ HE10.out (cfgA_size g) ?_)
      | (refine wpList_load23W rfl (.tmp 10) rfl b rfl _ HF10.out (cfgA_size g) ?_)
      | (refine wpList_eql23W rfl (.tmp 44) (.tmp 45) 23 rfl f rfl rfl ?_)
      | (refine wpList_eql23W rfl (.tmp 49) (.tmp 50) 23 rfl g rfl rfl ?_))
    go_ret
    exact ⟨rfl, HB10.out⟩
end Go.Proofs.YtnollfnjidbdcaaDoor.X

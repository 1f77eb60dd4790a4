/- LinkOrder, a piece: a packet is taken out of the slice of those under way. -/
import Derived.Test.YtbbacdaenpildaaXOrdMem
import Derived.Deep.RegionHeld3
import Derived.Deep.RegionLaw
namespace Go.Proofs.Ytbbacdaenpildaa.X
open Go.RowKit Go.Proofs.Ytbbacdaenpildaa.XTick
set_option linter.unusedSimpArgs false

noncomputable def ord25 : Code := (Try.f3.body.bind (pick (isRegion 25))).getD .skip

theorem rm_end {wc w2 : World} {lo x y EB W0 SB GB Lx Ly k : Nat} {vx vy wx wy v2 : Value} {a b : LS} {px py : List Pk} {sa sb ga gb : Int} {nn : Nat} (h : Ord wc lo x y EB W0 SB GB Lx Ly vx vy wx wy a b px py sa sb ga gb)
    (hu : Upd (fun i => wc.heap.size ≤ i) wc w2) (hr : w2.ownsRow wc.heap.size 38 9 v2 nn (pcells (px.take k) ++ pcells (px.drop (k + 1)))) (hn : nn = (px.take k ++ px.drop (k + 1)).length) (hne : v2 ≠ .slice none 0 0) :
    ∃ (wx' : Value) (px' : List Pk), (∀ q ∈ px', q ∈ px) ∧ px'.length ≤ px.length ∧ Ord (w2.setCell ⟨W0, x, none⟩ v2) lo x y EB W0 SB GB Lx Ly vx vy wx' wy a b px' py sa sb ga gb ∧ Upd (fun k => k = W0) wc (w2.setCell ⟨W0, x, none⟩ v2) := by
  have hlo := h.two.lo_le
  have hu' : Upd (fun k => some k = wx.ownBlock) wc w2 := ⟨hu.os, hu.tape, hu.output, hu.size, fun i hi _ => hu.block i hi (by omega)⟩
  have hr' : w2.ownsRow lo 38 9 v2 (px.take k ++ px.drop (k + 1)).length (pcells (px.take k ++ px.drop (k + 1))) := by
    rw [pcells_append, ← hn]
    refine ⟨hr.1, ?_⟩
    rcases hr.2 with h | ⟨g, cap, cur, rfl, h1, h2, r⟩
    · exact .inl h
    · exact .inr ⟨g, cap, cur, rfl, Nat.le_trans hlo h1, h2, r⟩
  refine ⟨v2, px.take k ++ px.drop (k + 1), fun q hq => ?_, ?_, h.setW hu' hr' ?_, ?_⟩
  · rcases List.mem_append.1 hq with hq | hq
    · exact List.mem_of_mem_take hq
    · exact List.mem_of_mem_drop hq
  · simp only [List.length_append, List.length_take, List.length_drop]; omega
  · rcases hr.2 with ⟨hv, _⟩ | ⟨g, cap, cur, rfl, h1, h2, r⟩
    · exact absurd hv hne
    · exact .inr ⟨g, rfl, h1⟩
  · exact (hu.mono (Y := fun i => i = W0 ∨ wc.heap.size ≤ i) (fun _ h => .inr h)).trans' (Y := fun k => k = W0) ((Upd.refl (fun k => k = W0) w2).setCell (.inl rfl) _) (fun i hi e => .inl e) |> fun q => ⟨q.os, q.tape, q.output, q.size, fun i hi hx => q.block i hi (fun e => by rcases e with e | e; exact hx e; omega)⟩

set_option maxHeartbeats 2000000 in
set_option maxRecDepth 100000 in
theorem ord_rm {K : Act → World → Prop} {Q' : Exit → Act → World → Prop} {u0 u1 u2 u3 u10 u11 u14 u15 u16 u17 u18 u19 u20 u21 u22 u23 u24 u25 u26 u27 u28 u29 u30 u31 u32 u33 u34 u35 u36 u37 u38 u39 u40 u41 u42 u43 u44 u45 u46 u47 u48 u49 u50 u51 u52 u53 u54 u55 u56 u57 u58 u59 u60 u61 u62 u63 u64 u65 u66 u67 u68 u69 u70 u71 u72 u73 u74 u75 u76 u77 u78 u79 u80 u81 u82 u83 u84 u85 u86 u87 u88 u89 u90 u91 u92 u93 u94 u95 u96 u97 u98 u99 u100 u101 u102 u103 u104 u105 u106 u107 u108 u109 u110 u111 u112 u113 u114 u115 u116 u117 u118 u119 u120 u121 u122 u123 u124 u125 u126 u127 u128 u129 u130 u131 u132 u133 u134 u135 u136 u137 u138 u139 u140 u141 u142 u143 u144 u145 u146 u147 u148 u149 u150 u151 u152 u153 u154 u155 u156 u157 u158 u159 u160 u161 u162 u163 u164 u165 u166 u167 u168 u169 u170 u171 u172 u173 u174 u175 u176 u177 u178 u179 u180 u181 u182 u183 u184 u185 u186 u187 u188 u189 u190 : Value} {wc : World} {lo x y EB W0 Lx Ly g n cap i k P : Nat} {vx vy wx wy : Value} {ax ay : Sd} {px py : List Pk}
    (OD3 : Hid (Ord wc lo x y EB W0 (W0 + 1) (W0 + 1 + 1) Lx Ly vx vy wx wy ax.ls ay.ls px py (ax.s + ax.n) (ay.s + ay.n) ax.g ay.g)) (HWX : Hid (wx = .slice (some ⟨g, 0, none⟩) n cap)) (HN : Hid (px.length = n)) (hn4 : n ≤ 400) (hkn : k < n) (hxi : (x : Int) < 2)
    (hK : Hid (∀ {u24 u25 u26 u27 u28 u29 u30 u31 u32 u33 u34 u35 u36 u37 u38 u39 u40 u41 u42 u43 u44 u45 u46 u47 u48 u49 u50 u51 u52 u53 u54 u55 u56 u57 u58 u59 u60 u61 u62 u63 u64 u65 u66 u67 u68 u69 u70 u71 u72 u73 u74 u75 u76 u77 u78 u79 u80 u81 u82 u83 u84 u85 u86 u87 u88 u89 u90 u91 u92 u93 u94 u95 u96 u97 u98 u99 u100 u101 u102 u103 u104 u105 u106 u107 u108 u109 u110 u111 u112 u113 u114 u115 u116 u117 u118 u119 u120 u121 u122 u123 u124 u125 u126 u127 u128 u129 u130 u131 u132 u133 u134 u135 u136 u137 u138 u139 u140 u141 u142 u143 u144 u145 u146 u147 u148 u149 u150 u151 u152 u153 u154 u155 u156 u157 u158 u159 u160 u161 u162 u163 u164 u165 u166 u167 u168 u169 u170 u171 u172 u173 u174 u175 u176 u177 u178 u179 u180 u181 u182 u183 u184 u185 u186 u187 u188 u189 : Value} {w' : World}, (∃ (wx' : Value) (px' : List Pk), (∀ q ∈ px', q ∈ px) ∧ px'.length ≤ px.length ∧ Ord w' lo x y EB W0 (W0 + 1) (W0 + 1 + 1) Lx Ly vx vy wx' wy ax.ls ay.ls px' py (ax.s + ax.n) (ay.s + ay.n) ax.g ay.g ∧ Upd (fun k => k = W0) wc w') →
      K ⟨List.toArray (u0 :: u1 :: u2 :: u3 :: .pointer (some ⟨EB, 0, none⟩) :: .pointer (some ⟨W0, 0, none⟩) :: .pointer (some ⟨W0 + 1, 0, none⟩) :: .pointer (some ⟨W0 + 1 + 1, 0, none⟩) :: .int .i64 i :: .int .i64 x :: u10 :: u11 :: .int .i64 k :: .pointer (some ⟨P, 0, none⟩) :: u14 :: u15 :: u16 :: u17 :: u18 :: u19 :: u20 :: u21 :: u22 :: u23 :: u24 :: u25 :: u26 :: u27 :: u28 :: u29 :: u30 :: u31 :: u32 :: u33 :: u34 :: u35 :: u36 :: u37 :: u38 :: u39 :: u40 :: u41 :: u42 :: u43 :: u44 :: u45 :: u46 :: u47 :: u48 :: u49 :: u50 :: u51 :: u52 :: u53 :: u54 :: u55 :: u56 :: u57 :: u58 :: u59 :: u60 :: u61 :: u62 :: u63 :: u64 :: u65 :: u66 :: u67 :: u68 :: u69 :: u70 :: u71 :: u72 :: u73 :: u74 :: u75 :: u76 :: u77 :: u78 :: u79 :: u80 :: u81 :: u82 :: u83 :: u84 :: u85 :: u86 :: u87 :: u88 :: u89 :: u90 :: u91 :: u92 :: u93 :: u94 :: u95 :: u96 :: u97 :: u98 :: u99 :: u100 :: u101 :: u102 :: u103 :: u104 :: u105 :: u106 :: u107 :: u108 :: u109 :: u110 :: u111 :: u112 :: u113 :: u114 :: u115 :: u116 :: u117 :: u118 :: u119 :: u120 :: u121 :: u122 :: u123 :: u124 :: u125 :: u126 :: u127 :: u128 :: u129 :: u130 :: u131 :: u132 :: u133 :: u134 :: u135 :: u136 :: u137 :: u138 :: u139 :: u140 :: u141 :: u142 :: u143 :: u144 :: u145 :: u146 :: u147 :: u148 :: u149 :: u150 :: u151 :: u152 :: u153 :: u154 :: u155 :: u156 :: u157 :: u158 :: u159 :: u160 :: u161 :: u162 :: u163 :: u164 :: u165 :: u166 :: u167 :: u168 :: u169 :: u170 :: u171 :: u172 :: u173 :: u174 :: u175 :: u176 :: u177 :: u178 :: u179 :: u180 :: u181 :: u182 :: u183 :: u184 :: u185 :: u186 :: u187 :: u188 :: u189 :: u190 :: []), []⟩ w')) :
    Code.wp Try.prog ord25 (Exit.then K Q') ⟨List.toArray (u0 :: u1 :: u2 :: u3 :: .pointer (some ⟨EB, 0, none⟩) :: .pointer (some ⟨W0, 0, none⟩) :: .pointer (some ⟨W0 + 1, 0, none⟩) :: .pointer (some ⟨W0 + 1 + 1, 0, none⟩) :: .int .i64 i :: .int .i64 x :: u10 :: u11 :: .int .i64 k :: .pointer (some ⟨P, 0, none⟩) :: u14 :: u15 :: u16 :: u17 :: u18 :: u19 :: u20 :: u21 :: u22 :: u23 :: u24 :: u25 :: u26 :: u27 :: u28 :: u29 :: u30 :: u31 :: u32 :: u33 :: u34 :: u35 :: u36 :: u37 :: u38 :: u39 :: u40 :: u41 :: u42 :: u43 :: u44 :: u45 :: u46 :: u47 :: u48 :: u49 :: u50 :: u51 :: u52 :: u53 :: u54 :: u55 :: u56 :: u57 :: u58 :: u59 :: u60 :: u61 :: u62 :: u63 :: u64 :: u65 :: u66 :: u67 :: u68 :: u69 :: u70 :: u71 :: u72 :: u73 :: u74 :: u75 :: u76 :: u77 :: u78 :: u79 :: u80 :: u81 :: u82 :: u83 :: u84 :: u85 :: u86 :: u87 :: u88 :: u89 :: u90 :: u91 :: u92 :: u93 :: u94 :: u95 :: u96 :: u97 :: u98 :: u99 :: u100 :: u101 :: u102 :: u103 :: u104 :: u105 :: u106 :: u107 :: u108 :: u109 :: u110 :: u111 :: u112 :: u113 :: u114 :: u115 :: u116 :: u117 :: u118 :: u119 :: u120 :: u121 :: u122 :: u123 :: u124 :: u125 :: u126 :: u127 :: u128 :: u129 :: u130 :: u131 :: u132 :: u133 :: u134 :: u135 :: u136 :: u137 :: u138 :: u139 :: u140 :: u141 :: u142 :: u143 :: u144 :: u145 :: u146 :: u147 :: u148 :: u149 :: u150 :: u151 :: u152 :: u153 :: u154 :: u155 :: u156 :: u157 :: u158 :: u159 :: u160 :: u161 :: u162 :: u163 :: u164 :: u165 :: u166 :: u167 :: u168 :: u169 :: u170 :: u171 :: u172 :: u173 :: u174 :: u175 :: u176 :: u177 :: u178 :: u179 :: u180 :: u181 :: u182 :: u183 :: u184 :: u185 :: u186 :: u187 :: u188 :: u189 :: u190 :: []), []⟩ wc := by
  conv => arg 2; whnf
  have t0 := OD3.out.cw.fst
  have tf := OD3.out.cw.free
  rw [HWX.out] at t0
  have hWl : W0 < wc.heap.size := OD3.out.cw.lt
  have hk1 : IntKind.i64.wrap ((k : Int) + 1) = ((k + 1 : Nat) : Int) := by rw [IntWalk.i64_in _ (by omega)]; omega
  have hkn1 : ((k + 1 : Nat) : Int) ≤ n := by omega
  have HLT := Lib.hid (show (pcells (px.take k)).length = k * 9 by rw [pcells_length, List.length_take]; have := HN.out; congr 1; omega)
  have HLD := Lib.hid (show (pcells (px.drop (k + 1))).length = (n - (k + 1)) * 9 by rw [pcells_length, List.length_drop, HN.out])
  have HRA := Lib.hid (show wc.ownsRow lo 38 9 (.slice (some ⟨g, 0, none⟩) n cap) n (pcells px) by have h := OD3.out.ra; rw [HWX.out, HN.out] at h; exact h)
  have hnc : n ≤ cap ∧ cap ≤ maxLen := by
    rcases HRA.out.2 with ⟨h, _⟩ | ⟨g', cap', cur, h, _, _, h1, h2, _⟩
    · simp at h
    · simp only [Value.slice.injEq] at h
      obtain ⟨_, _, rfl⟩ := h
      exact ⟨h1, h2⟩
  obtain ⟨hnc1, hnc2⟩ := hnc
  unfold maxLen at hnc2
  have hkc : k ≤ cap := by omega
  have hkc1 : k + 1 ≤ n := by omega
  have hki0 : (0 : Int) ≤ (k : Int) + 1 := by omega
  have hki2 : (k : Int) + 1 ≤ (n : Int) := by omega
  have hgw3 : g < wc.heap.size := (ownsRow_lt OD3.out.ra g (by rw [HWX.out]; rfl)).2
  have HNE := Lib.hid (show k + (n - (k + 1)) = (px.take k ++ px.drop (k + 1)).length by rw [List.length_append, List.length_take, List.length_drop]; have := HN.out; omega)
  by_cases hc : cap = k + 1
  · have hnk : n = k + 1 := by omega
    have HD0 := Lib.hid (show px.drop (k + 1) = [] from List.drop_eq_nil_of_le (by have := HN.out; omega))
    subst hc
    have HNK := Lib.hid hnk
    have hkk : (k : Int) ≤ (k : Int) + 1 := by omega
    clear hnk
    refine wp_region_noPanic ?_; go_region_law (first | (refine step_append_own' rfl (.tmp 122) (.tmp 128) rfl wc.heap.size v1 k (pcells (px.take k)) (by simp [Act.eval, Act.put]) (by simpa using HO1.out) ⟨g, 0, none⟩ 0 0 [] (by simp [Act.eval, Act.put]) rfl (fun j u h => by simp at h) (fun u h => by simp at h) (by omega) HU1.out.size ?_; intro v2 w2 hown2 hgrow2 hnil2; obtain ⟨ad2, cp2, hs2⟩ := own_shape hown2; subst hs2; have U2 := Upd.grown (X := fun i => wc.heap.size ≤ i) HU1.out hgrow2 (fun i hi => .inl (own_of HO1.out i hi)); have cw2 := OD3.out.cw.upd U2 (by omega); have t2 := cw2.fst; rw [HWX.out] at t2; have f2 := cw2.free; have HO2 := Lib.hid hown2; have HN2 := Lib.hid hnil2; have HU2 := Lib.hid U2; clear hown2 hnil2 hgrow2 U2 cw2) | (refine step_append_own' rfl (.tmp 116) (.tmp 121) rfl wc.heap.size (.slice (some ⟨wc.heap.size, 0, none⟩) 0 0) 0 [] (by simp [Act.eval, Act.put]) (ownsRow_upd (World.ownsRow_lit wc #[] 0 (Nat.le_refl _) (by unfold maxLen; omega) rfl) (Upd.drew (Upd.refl (fun _ => False) _)) (fun _ _ h => h)) ⟨g, 0, none⟩ k (k + 1) (pcells (px.take k)) (by simp [Act.eval, Act.put]) HLT.out (way_take HRA.out HN.out (Upd.drew (Upd.alloc (Upd.refl _ wc) _)) hgw3) (pcells_one _) (by omega) (by simp) ?_; intro v1 w1 hown1 hgrow1 hnil1; have U1 := Upd.grown (X := fun i => wc.heap.size ≤ i) (((Upd.refl _ wc).alloc _).drew) hgrow1 (fun i hi => .inl (by simp [Value.ownBlock] at hi; omega)); have cw1 := OD3.out.cw.upd U1 (by omega); have t1 := cw1.fst; rw [HWX.out] at t1; have f1 := cw1.free; have HO1 := Lib.hid hown1; have HN1 := Lib.hid hnil1; have HU1 := Lib.hid U1; clear hown1 hnil1 hgrow1 U1 cw1))
    all_goals
      refine NoPanic.normal ?_
      exact hK.out (rm_end OD3.out HU2.out (by have h := HO2.out; rw [HD0.out]; simpa [pcells] using h) (by have := HNE.out; have := HNK.out; omega) (fun e => by have := HN1.out.1 (HN2.out.1 e).1; simp at this))
  · refine wp_region_noPanic ?_; go_region_law (first | (refine step_append_own' rfl (.tmp 122) (.tmp 128) rfl wc.heap.size v1 k (pcells (px.take k)) (by simp [Act.eval, Act.put]) (by simpa using HO1.out) ⟨g, (k + 1) * 9, none⟩ (n - (k + 1)) (cap - (k + 1)) (pcells (px.drop (k + 1))) (by simp [Act.eval, Act.put]) HLD.out (way_drop HRA.out HN.out HU1.out hgw3) (pcells_one _) (by omega) HU1.out.size ?_; intro v2 w2 hown2 hgrow2 hnil2; obtain ⟨ad2, cp2, hs2⟩ := own_shape hown2; subst hs2; have U2 := Upd.grown (X := fun i => wc.heap.size ≤ i) HU1.out hgrow2 (fun i hi => .inl (own_of HO1.out i hi)); have cw2 := OD3.out.cw.upd U2 (by omega); have t2 := cw2.fst; rw [HWX.out] at t2; have f2 := cw2.free; have HO2 := Lib.hid hown2; have HN2 := Lib.hid hnil2; have HU2 := Lib.hid U2; clear hown2 hnil2 hgrow2 U2 cw2) | (refine step_append_own' rfl (.tmp 116) (.tmp 121) rfl wc.heap.size (.slice (some ⟨wc.heap.size, 0, none⟩) 0 0) 0 [] (by simp [Act.eval, Act.put]) (ownsRow_upd (World.ownsRow_lit wc #[] 0 (Nat.le_refl _) (by unfold maxLen; omega) rfl) (Upd.drew (Upd.refl (fun _ => False) _)) (fun _ _ h => h)) ⟨g, 0, none⟩ k cap (pcells (px.take k)) (by simp [Act.eval, Act.put]) HLT.out (way_take HRA.out HN.out (Upd.drew (Upd.alloc (Upd.refl _ wc) _)) hgw3) (pcells_one _) (by omega) (by simp) ?_; intro v1 w1 hown1 hgrow1 hnil1; have U1 := Upd.grown (X := fun i => wc.heap.size ≤ i) (((Upd.refl _ wc).alloc _).drew) hgrow1 (fun i hi => .inl (by simp [Value.ownBlock] at hi; omega)); have cw1 := OD3.out.cw.upd U1 (by omega); have t1 := cw1.fst; rw [HWX.out] at t1; have f1 := cw1.free; have HO1 := Lib.hid hown1; have HN1 := Lib.hid hnil1; have HU1 := Lib.hid U1; clear hown1 hnil1 hgrow1 U1 cw1))
    all_goals
      refine NoPanic.normal ?_
      exact hK.out (rm_end OD3.out HU2.out HO2.out HNE.out (fun e => by have := HN1.out.1 (HN2.out.1 e).1; simp at this))
end Go.Proofs.Ytbbacdaenpildaa.X

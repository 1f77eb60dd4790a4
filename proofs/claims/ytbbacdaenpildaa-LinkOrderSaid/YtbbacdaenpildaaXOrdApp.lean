/- LinkOrder, a piece: what was polled goes on its way. -/
import Derived.Test.YtbbacdaenpildaaXOrdMem
import Derived.Deep.RegionLawGrows
import Derived.Deep.RegionHeld3
namespace Go.Proofs.Ytbbacdaenpildaa.X
open Go.RowKit Go.Proofs.Ytbbacdaenpildaa.XTick
set_option linter.unusedSimpArgs false

noncomputable def ord17 : Code := (Try.f3.body.bind (pick (isRegion 17))).getD .skip

set_option maxHeartbeats 2000000 in
set_option maxRecDepth 100000 in
theorem ord_app {Q : Exit → Act → World → Prop} {u0 u1 u2 u3 u4 u6 u7 u8 u11 u12 u13 u14 u15 u16 u17 u18 u19 u20 u21 u22 u23 u24 u25 u26 u27 u28 u29 u30 u31 u32 u33 u34 u35 u36 u37 u38 u39 u40 u41 u42 u43 u44 u45 u46 u47 u48 u49 u50 u51 u52 u53 u54 u55 u56 u57 u58 u59 u60 u61 u62 u63 u64 u65 u66 u67 u68 u69 u70 u71 u72 u73 u74 u75 u76 u77 u78 u79 u80 u81 u82 u83 u84 u85 u86 u87 u88 u89 u90 u91 u92 u93 u94 u95 u96 u97 u98 u99 u100 u101 u102 u103 u104 u105 u106 u107 u108 u109 u110 u111 u112 u113 u114 u115 u116 u117 u118 u119 u120 u121 u122 u123 u124 u125 u126 u127 u128 u129 u130 u131 u132 u133 u134 u135 u136 u137 u138 u139 u140 u141 u142 u143 u144 u145 u146 u147 u148 u149 u150 u151 u152 u153 u154 u155 u156 u157 u158 u159 u160 u161 u162 u163 u164 u165 u166 u167 u168 u169 u170 u171 u172 u173 u174 u175 u176 u177 u178 u179 u180 u181 u182 u183 u184 u185 u186 u187 u188 u189 u190 : Value} {wc : World} {lo x y EB W0 SB GB Lx Ly P : Nat} {vx vy wx wy : Value} {a b : LS} {px py : List Pk} {sa sb ga gb : Int} {p : Pk}
    (OD2 : Hid (Ord wc lo x y EB W0 SB GB Lx Ly vx vy wx wy a b px py sa sb ga gb)) (HP : Hid (wc.heap[P]? = some (.cells p.cells.toArray 38 (0, 0)))) (hpy : py.length ≤ 400) (hyi : (y : Int) < 2) (hy : IntKind.i64.wrap (1 - (x : Int)) = y)
    (hK : Hid (∀ {u24 u25 u26 u27 u28 u29 u30 u31 u32 u33 u34 u35 u36 u37 u38 u39 u40 u41 u42 u43 u44 u45 u46 u47 u48 u49 u50 u51 u52 u53 u54 u55 u56 u57 u58 u59 u60 u61 u62 u63 u64 u65 u66 u67 u68 u69 u70 u71 u72 u73 u74 u75 u76 u77 u78 u79 u80 u81 u82 u83 u84 u85 u86 u87 u88 u89 u90 u91 u92 u93 u94 u95 u96 u97 u98 u99 u100 u101 u102 u103 u104 u105 u106 u107 u108 u109 u110 u111 u112 u113 u114 u115 u116 u117 u118 u119 u120 u121 u122 u123 u124 u125 u126 u127 u128 u129 u130 u131 u132 u133 u134 u135 u136 u137 u138 u139 u140 u141 u142 u143 u144 u145 u146 u147 u148 u149 u150 u151 u152 u153 u154 u155 u156 u157 u158 u159 u160 u161 u162 u163 u164 u165 u166 u167 u168 u169 u170 u171 u172 u173 u174 u175 u176 u177 u178 u179 u180 u181 u182 u183 u184 u185 u186 u187 u188 u189 : Value} {w' : World}, (∃ wy' : Value, Ord w' lo x y EB W0 SB GB Lx Ly vx vy wx wy' a b px (py ++ [p]) sa sb ga gb ∧ Upd (fun k => k = W0 ∨ some k = wy.ownBlock) wc w') →
      Q .normal ⟨List.toArray (u0 :: u1 :: u2 :: u3 :: u4 :: .pointer (some ⟨W0, 0, none⟩) :: u6 :: u7 :: u8 :: .int .i64 x :: .pointer (some ⟨P, 0, none⟩) :: u11 :: u12 :: u13 :: u14 :: u15 :: u16 :: u17 :: u18 :: u19 :: u20 :: u21 :: u22 :: u23 :: u24 :: u25 :: u26 :: u27 :: u28 :: u29 :: u30 :: u31 :: u32 :: u33 :: u34 :: u35 :: u36 :: u37 :: u38 :: u39 :: u40 :: u41 :: u42 :: u43 :: u44 :: u45 :: u46 :: u47 :: u48 :: u49 :: u50 :: u51 :: u52 :: u53 :: u54 :: u55 :: u56 :: u57 :: u58 :: u59 :: u60 :: u61 :: u62 :: u63 :: u64 :: u65 :: u66 :: u67 :: u68 :: u69 :: u70 :: u71 :: u72 :: u73 :: u74 :: u75 :: u76 :: u77 :: u78 :: u79 :: u80 :: u81 :: u82 :: u83 :: u84 :: u85 :: u86 :: u87 :: u88 :: u89 :: u90 :: u91 :: u92 :: u93 :: u94 :: u95 :: u96 :: u97 :: u98 :: u99 :: u100 :: u101 :: u102 :: u103 :: u104 :: u105 :: u106 :: u107 :: u108 :: u109 :: u110 :: u111 :: u112 :: u113 :: u114 :: u115 :: u116 :: u117 :: u118 :: u119 :: u120 :: u121 :: u122 :: u123 :: u124 :: u125 :: u126 :: u127 :: u128 :: u129 :: u130 :: u131 :: u132 :: u133 :: u134 :: u135 :: u136 :: u137 :: u138 :: u139 :: u140 :: u141 :: u142 :: u143 :: u144 :: u145 :: u146 :: u147 :: u148 :: u149 :: u150 :: u151 :: u152 :: u153 :: u154 :: u155 :: u156 :: u157 :: u158 :: u159 :: u160 :: u161 :: u162 :: u163 :: u164 :: u165 :: u166 :: u167 :: u168 :: u169 :: u170 :: u171 :: u172 :: u173 :: u174 :: u175 :: u176 :: u177 :: u178 :: u179 :: u180 :: u181 :: u182 :: u183 :: u184 :: u185 :: u186 :: u187 :: u188 :: u189 :: u190 :: []), []⟩ w')) :
    Code.wp Try.prog ord17 Q ⟨List.toArray (u0 :: u1 :: u2 :: u3 :: u4 :: .pointer (some ⟨W0, 0, none⟩) :: u6 :: u7 :: u8 :: .int .i64 x :: .pointer (some ⟨P, 0, none⟩) :: u11 :: u12 :: u13 :: u14 :: u15 :: u16 :: u17 :: u18 :: u19 :: u20 :: u21 :: u22 :: u23 :: u24 :: u25 :: u26 :: u27 :: u28 :: u29 :: u30 :: u31 :: u32 :: u33 :: u34 :: u35 :: u36 :: u37 :: u38 :: u39 :: u40 :: u41 :: u42 :: u43 :: u44 :: u45 :: u46 :: u47 :: u48 :: u49 :: u50 :: u51 :: u52 :: u53 :: u54 :: u55 :: u56 :: u57 :: u58 :: u59 :: u60 :: u61 :: u62 :: u63 :: u64 :: u65 :: u66 :: u67 :: u68 :: u69 :: u70 :: u71 :: u72 :: u73 :: u74 :: u75 :: u76 :: u77 :: u78 :: u79 :: u80 :: u81 :: u82 :: u83 :: u84 :: u85 :: u86 :: u87 :: u88 :: u89 :: u90 :: u91 :: u92 :: u93 :: u94 :: u95 :: u96 :: u97 :: u98 :: u99 :: u100 :: u101 :: u102 :: u103 :: u104 :: u105 :: u106 :: u107 :: u108 :: u109 :: u110 :: u111 :: u112 :: u113 :: u114 :: u115 :: u116 :: u117 :: u118 :: u119 :: u120 :: u121 :: u122 :: u123 :: u124 :: u125 :: u126 :: u127 :: u128 :: u129 :: u130 :: u131 :: u132 :: u133 :: u134 :: u135 :: u136 :: u137 :: u138 :: u139 :: u140 :: u141 :: u142 :: u143 :: u144 :: u145 :: u146 :: u147 :: u148 :: u149 :: u150 :: u151 :: u152 :: u153 :: u154 :: u155 :: u156 :: u157 :: u158 :: u159 :: u160 :: u161 :: u162 :: u163 :: u164 :: u165 :: u166 :: u167 :: u168 :: u169 :: u170 :: u171 :: u172 :: u173 :: u174 :: u175 :: u176 :: u177 :: u178 :: u179 :: u180 :: u181 :: u182 :: u183 :: u184 :: u185 :: u186 :: u187 :: u188 :: u189 :: u190 :: []), []⟩ wc := by
  conv => arg 2; whnf
  have t0 := OD2.out.swap.cw.fst
  have tf := OD2.out.cw.free
  obtain ⟨ps, pe, pq, pa, ph, ⟨pk, pma, pmb, pmc⟩⟩ := p
  have d0 : wc.cell? ⟨P, 0, none⟩ = some (.int .i64 ps) := at_cell HP.out rfl
  have d1 : wc.cell? ⟨P, 1, none⟩ = some (.int .i64 pe) := at_cell HP.out rfl
  have d2 : wc.cell? ⟨P, 2, none⟩ = some (.int .i64 pq) := at_cell HP.out rfl
  have d3 : wc.cell? ⟨P, 3, none⟩ = some (.int .i64 pa) := at_cell HP.out rfl
  have d4 : wc.cell? ⟨P, 4, none⟩ = some (.bool ph) := at_cell HP.out rfl
  have d5 : wc.cell? ⟨P, 5, none⟩ = some (.int .i64 pk) := at_cell HP.out rfl
  have d6 : wc.cell? ⟨P, 6, none⟩ = some (.int .i64 pma) := at_cell HP.out rfl
  have d7 : wc.cell? ⟨P, 7, none⟩ = some (.int .i64 pmb) := at_cell HP.out rfl
  have d8 : wc.cell? ⟨P, 8, none⟩ = some (.int .i64 pmc) := at_cell HP.out rfl
  obtain ⟨i0, hii, hz0, hz1, hz2⟩ := info_parts Try.info38
  have II := Lib.hid hii
  have Z0 := Lib.hid hz0
  have Z1 := Lib.hid hz1
  have Z2 := Lib.hid hz2
  clear hii hz0 hz1 hz2
  have hpy : py.length ≤ 400 := hpy
  have hloW : lo ≤ wc.heap.size := OD2.out.two.lo_le
  have hWl : W0 < wc.heap.size := OD2.out.cw.lt
  have hPl : P < wc.heap.size := at_lt HP.out
  have hWO : ¬ some W0 = wy.ownBlock := fun e => by have := (ownsRow_lt OD2.out.rb _ e.symm).1; have := OD2.out.lt; omega
  refine wp_region_noPanic ?_
  go_region_law (refine step_append_lies _ rfl (.tmp 76) (.tmp 78) 29 rfl lo 38 i0 (.agg #[.int .i64 0, .int .i64 0, .int .i64 0, .int .i64 0, .bool false, .int .i64 0, .int .i64 0, .int .i64 0, .int .i64 0]) 9 72 Try.underlying29 II.out Z0.out Z1.out Z2.out rfl (by decide) wy py.length (pcells py) (by simp [Act.eval]) (ownsRow_upd (ownsRow_upd OD2.out.rb (Upd.alloc (Upd.refl (fun _ => False) wc) _) (fun _ _ h => h)) (Upd.drew (Upd.refl (fun _ => False) _)) (fun _ _ h => h)) ⟨wc.heap.size, 0, none⟩ 1 1 (Pk.mk ps pe pq pa ph ⟨pk, pma, pmb, pmc⟩).cells (by simp [Act.eval]) rfl (World.news_of_block (heap_alloc_new _ _)) (pk_one _) (by omega) (by unfold maxLen; omega) (by omega) (by simp; omega) _ rfl ?_; intro g cap w1 hown hgrow hat hlt; have U1 := Upd.grown (X := fun k => some k = wy.ownBlock) (((Upd.refl _ wc).alloc _).drew) hgrow (fun k hk => .inl hk.symm); have cw1 := OD2.out.cw.upd U1 hWO; have c1' := cw1.swap.fst; have f1' := cw1.free; have U1 := Lib.hid U1; have HO := Lib.hid hown; have HA := Lib.hid hat; clear hown hgrow hat cw1 hlt t0 tf d0 d1 d2 d3 d4 d5 d6 d7 d8)
  all_goals
    have hr : w1.ownsRow lo 38 9 (.slice (some ⟨g, 0, none⟩) (py.length + 1) cap) (py ++ [Pk.mk ps pe pq pa ph ⟨pk, pma, pmb, pmc⟩]).length (pcells (py ++ [Pk.mk ps pe pq pa ph ⟨pk, pma, pmb, pmc⟩])) := by
      rw [pcells_append]
      simpa [pcells] using HO.out
    have hv : (Value.slice (some ⟨g, 0, none⟩) (py.length + 1) cap).ownBlock = wy.ownBlock ∨ ∃ g', (Value.slice (some ⟨g, 0, none⟩) (py.length + 1) cap).ownBlock = some g' ∧ wc.heap.size ≤ g' := by
      rcases HA.out with h | h
      · exact .inl (by rw [h]; rfl)
      · exact .inr ⟨g, rfl, by rw [h]; simp⟩
    refine NoPanic.normal ?_
    exact hK.out ⟨_, (OD2.out.swap.setW U1.out hr hv).swap, Upd.setCell (X := fun k => k = W0 ∨ some k = wy.ownBlock) (U1.out.mono (fun _ h => .inr h)) (.inl (.inl rfl)) _⟩
end Go.Proofs.Ytbbacdaenpildaa.X

/- LinkOrder, a piece: the two links. -/
import Derived.Test.YtbbacdaenpildaaXOrdMem
namespace Go.Proofs.Ytbbacdaenpildaa.X
open Go.RowKit Go.Proofs.Ytbbacdaenpildaa.XTick
set_option linter.unusedSimpArgs false

noncomputable def ord3 : Code := (Try.f3.body.bind (pick (isRegion 3))).getD .skip

set_option maxHeartbeats 2000000 in
set_option maxRecDepth 100000 in
theorem ord_new {K : Act → World → Prop} {post : Ending → World → Prop} {u0 u1 u2 u4 u5 u6 u7 u8 u9 u10 u11 u12 u13 u14 u15 u16 u17 u18 u19 u20 u21 u22 u23 u24 u25 u26 u27 u28 u29 u30 u31 u32 u33 u34 u35 u36 u37 u38 u39 u40 u41 u42 u43 u44 u45 u46 u47 u48 u49 u50 u51 u52 u53 u54 u55 u56 u57 u58 u59 u60 u61 u62 u63 u64 u65 u66 u67 u68 u69 u70 u71 u72 u73 u74 u75 u76 u77 u78 u79 u80 u81 u82 u83 u84 u85 u86 u87 u88 u89 u90 u91 u92 u93 u94 u95 u96 u97 u98 u99 u100 u101 u102 u103 u104 u105 u106 u107 u108 u109 u110 u111 u112 u113 u114 u115 u116 u117 u118 u119 u120 u121 u122 u123 u124 u125 u126 u127 u128 u129 u130 u131 u132 u133 u134 u135 u136 u137 u138 u139 u140 u141 u142 u143 u144 u145 u146 u147 u148 u149 u150 u151 u152 u153 u154 u155 u156 u157 u158 u159 u160 u161 u162 u163 u164 u165 u166 u167 u168 u169 u170 u171 u172 u173 u174 u175 u176 u177 u178 u179 u180 u181 u182 u183 u184 u185 u186 u187 u188 u189 u190 : Value} {w w2 : World} {C : Nat} (HC2 : Hid (w2.heap[C]? = some (.cells cfg2.toArray 24 (0, 0)))) (HB2 : Hid (Below w.heap.size w w2))
    (hK : Hid (∀ {u16 u17 u18 u19 u20 u21 u22 u23 u24 u25 u26 u27 u28 u29 u30 u31 u32 u33 u34 u35 u36 u37 u38 u39 u40 u41 u42 u43 u44 u45 u46 u47 u48 u49 u50 u51 u52 u53 u54 u55 u56 u57 u58 u59 u60 u61 u62 u63 u64 u65 u66 u67 u68 u69 u70 u71 u72 u73 u74 u75 u76 u77 u78 u79 u80 u81 u82 u83 u84 u85 u86 u87 u88 u89 u90 u91 u92 u93 u94 u95 u96 u97 u98 u99 u100 u101 u102 u103 u104 u105 u106 u107 u108 u109 u110 u111 u112 u113 u114 u115 u116 u117 u118 u119 u120 u121 u122 u123 u124 u125 u126 u127 u128 u129 u130 u131 u132 u133 u134 u135 u136 u137 u138 u139 u140 u141 u142 u143 u144 u145 u146 u147 u148 u149 u150 u151 u152 u153 u154 u155 u156 u157 u158 u159 u160 u161 u162 u163 u164 u165 u166 u167 u168 u169 u170 u171 u172 u173 u174 u175 u176 u177 u178 u179 u180 u181 u182 u183 u184 u185 u186 u187 u188 u189 u190 u4 : Value} {wc : World}, (∃ EB La Lb ha hb, u4 = .pointer (some ⟨EB, 0, none⟩) ∧ w.heap.size ≤ La ∧ w.heap.size ≤ Lb ∧ w.heap.size ≤ EB ∧ EB ≠ La ∧ EB ≠ Lb ∧ C2 wc EB 0 1 (.pointer (some ⟨La, 0, none⟩)) (.pointer (some ⟨Lb, 0, none⟩)) ∧ Below w.heap.size w wc ∧
    Two wc wc.heap.size La Lb (.slice none 0 0) (.slice none 0 0) ⟨1073741824, 1073741824, 3, 9, [], 0, 0, 0, 0, false, ha⟩ ⟨1073741824, 1073741824, 3, 9, [], 0, 0, 0, 0, false, hb⟩) →
      K ⟨List.toArray (u0 :: u1 :: u2 :: .pointer (some ⟨C, 0, none⟩) :: u4 :: u5 :: u6 :: u7 :: u8 :: u9 :: u10 :: u11 :: u12 :: u13 :: u14 :: u15 :: u16 :: u17 :: u18 :: u19 :: u20 :: u21 :: u22 :: u23 :: u24 :: u25 :: u26 :: u27 :: u28 :: u29 :: u30 :: u31 :: u32 :: u33 :: u34 :: u35 :: u36 :: u37 :: u38 :: u39 :: u40 :: u41 :: u42 :: u43 :: u44 :: u45 :: u46 :: u47 :: u48 :: u49 :: u50 :: u51 :: u52 :: u53 :: u54 :: u55 :: u56 :: u57 :: u58 :: u59 :: u60 :: u61 :: u62 :: u63 :: u64 :: u65 :: u66 :: u67 :: u68 :: u69 :: u70 :: u71 :: u72 :: u73 :: u74 :: u75 :: u76 :: u77 :: u78 :: u79 :: u80 :: u81 :: u82 :: u83 :: u84 :: u85 :: u86 :: u87 :: u88 :: u89 :: u90 :: u91 :: u92 :: u93 :: u94 :: u95 :: u96 :: u97 :: u98 :: u99 :: u100 :: u101 :: u102 :: u103 :: u104 :: u105 :: u106 :: u107 :: u108 :: u109 :: u110 :: u111 :: u112 :: u113 :: u114 :: u115 :: u116 :: u117 :: u118 :: u119 :: u120 :: u121 :: u122 :: u123 :: u124 :: u125 :: u126 :: u127 :: u128 :: u129 :: u130 :: u131 :: u132 :: u133 :: u134 :: u135 :: u136 :: u137 :: u138 :: u139 :: u140 :: u141 :: u142 :: u143 :: u144 :: u145 :: u146 :: u147 :: u148 :: u149 :: u150 :: u151 :: u152 :: u153 :: u154 :: u155 :: u156 :: u157 :: u158 :: u159 :: u160 :: u161 :: u162 :: u163 :: u164 :: u165 :: u166 :: u167 :: u168 :: u169 :: u170 :: u171 :: u172 :: u173 :: u174 :: u175 :: u176 :: u177 :: u178 :: u179 :: u180 :: u181 :: u182 :: u183 :: u184 :: u185 :: u186 :: u187 :: u188 :: u189 :: u190 :: []), []⟩ wc)) :
    Code.wp Try.prog ord3 (Exit.then K (bodyPost Try.prog Try.f3 post)) ⟨List.toArray (u0 :: u1 :: u2 :: .pointer (some ⟨C, 0, none⟩) :: u4 :: u5 :: u6 :: u7 :: u8 :: u9 :: u10 :: u11 :: u12 :: u13 :: u14 :: u15 :: u16 :: u17 :: u18 :: u19 :: u20 :: u21 :: u22 :: u23 :: u24 :: u25 :: u26 :: u27 :: u28 :: u29 :: u30 :: u31 :: u32 :: u33 :: u34 :: u35 :: u36 :: u37 :: u38 :: u39 :: u40 :: u41 :: u42 :: u43 :: u44 :: u45 :: u46 :: u47 :: u48 :: u49 :: u50 :: u51 :: u52 :: u53 :: u54 :: u55 :: u56 :: u57 :: u58 :: u59 :: u60 :: u61 :: u62 :: u63 :: u64 :: u65 :: u66 :: u67 :: u68 :: u69 :: u70 :: u71 :: u72 :: u73 :: u74 :: u75 :: u76 :: u77 :: u78 :: u79 :: u80 :: u81 :: u82 :: u83 :: u84 :: u85 :: u86 :: u87 :: u88 :: u89 :: u90 :: u91 :: u92 :: u93 :: u94 :: u95 :: u96 :: u97 :: u98 :: u99 :: u100 :: u101 :: u102 :: u103 :: u104 :: u105 :: u106 :: u107 :: u108 :: u109 :: u110 :: u111 :: u112 :: u113 :: u114 :: u115 :: u116 :: u117 :: u118 :: u119 :: u120 :: u121 :: u122 :: u123 :: u124 :: u125 :: u126 :: u127 :: u128 :: u129 :: u130 :: u131 :: u132 :: u133 :: u134 :: u135 :: u136 :: u137 :: u138 :: u139 :: u140 :: u141 :: u142 :: u143 :: u144 :: u145 :: u146 :: u147 :: u148 :: u149 :: u150 :: u151 :: u152 :: u153 :: u154 :: u155 :: u156 :: u157 :: u158 :: u159 :: u160 :: u161 :: u162 :: u163 :: u164 :: u165 :: u166 :: u167 :: u168 :: u169 :: u170 :: u171 :: u172 :: u173 :: u174 :: u175 :: u176 :: u177 :: u178 :: u179 :: u180 :: u181 :: u182 :: u183 :: u184 :: u185 :: u186 :: u187 :: u188 :: u189 :: u190 :: []), []⟩ w2 := by
  conv => arg 2; whnf
  refine wp_region_held_drew (S := fun w' => w'.rangeAt C 0 cfg2) (by kernel_rfl) (range_of (at_drew HC2.out)) (fun hHeld => ?_)
  refine' wpAnyH_take (i := 0) (v := _) rfl (by kernel_rfl) (by kernel_rfl) (by kernel_rfl) (fun _ _ _ h => h) (yieldsIf_load_mid (by rfl) 24 (.tmp 3) rfl C 0 rfl cfg2 _ (fun w h => h) Try.underlying24 rfl (by kernel_rfl)) hHeld ?_
  try simp only [Act.put, List.setIfInBounds_toArray, List.set_cons_zero, List.set_cons_succ]
  refine' wpAnyH_take (i := 2) (v := _) rfl (by kernel_rfl) (by kernel_rfl) (by kernel_rfl) (fun _ _ _ h => h) (yieldsIf_load_mid (by rfl) 24 (.tmp 3) rfl C 0 rfl cfg2 _ (fun w h => h) Try.underlying24 rfl (by kernel_rfl)) hHeld ?_
  try simp only [Act.put, List.setIfInBounds_toArray, List.set_cons_zero, List.set_cons_succ]
  refine wpAnyH_ready (rs := [1, 5]) (by kernel_rfl) (by simp) ?_
  refine AllReadyH.cons rfl (fun K hK => ?_) (AllReadyH.cons rfl (fun K hK => ?_) AllReadyH.nil)
  · go_simp
    refine (new_any _ 1073741824 1073741824 3 9 0 (by omega)).mono ?_
    intro e3 w3 n3
    have n3' := n3
    obtain ⟨L3, rfl, _, _, nb3⟩ := n3'
    have hc3 : w3.heap[C]? = some (.cells cfg2.toArray 24 (0, 0)) := (nb3.block C (at_lt (at_drew HC2.out))).trans (at_drew HC2.out)
    have N3 := Lib.hid n3
    have NB3 := Lib.hid nb3
    have HC3 := Lib.hid hc3
    clear n3 hc3 nb3
    refine hK.out _ _ (range_of HC3.out) (fun hHeld => ?_)
    clear hK K
    try simp only [Act.put, List.setIfInBounds_toArray, List.set_cons_zero, List.set_cons_succ]
    refine wpAnyH_ready (rs := [3, 5]) (by kernel_rfl) (by simp) ?_
    refine AllReadyH.cons rfl (fun K hK => ?_) (AllReadyH.cons rfl (fun K hK => ?_) AllReadyH.nil)
    · go_simp
      refine (new_any _ 1073741824 1073741824 3 9 0 (by omega)).mono ?_
      intro e4 w4 n4
      have n4' := n4
      obtain ⟨L4, rfl, _, _, nb4⟩ := n4'
      have hc4 : w4.heap[C]? = some (.cells cfg2.toArray 24 (0, 0)) := (nb4.block C (at_lt HC3.out)).trans HC3.out
      have N4 := Lib.hid n4
      have NB4 := Lib.hid nb4
      have HC4 := Lib.hid hc4
      clear n4 hc4 nb4
      refine hK.out _ _ (range_of HC4.out) (fun hHeld => ?_)
      clear hK K
      try simp only [Act.put, List.setIfInBounds_toArray, List.set_cons_zero, List.set_cons_succ]
      refine wpAnyH_ready (rs := [4, 5]) (by kernel_rfl) (by simp) ?_
      refine AllReadyH.cons rfl (fun K hK => ?_) (AllReadyH.cons rfl (fun K hK => ?_) AllReadyH.nil)
      · go_simp
        refine hK.out _ _ (range_of HC4.out) (fun hHeld => ?_)
        clear hK K
        try simp only [Act.put, List.setIfInBounds_toArray, List.set_cons_zero, List.set_cons_succ]
        refine wpAnyH_ready (rs := [5]) (by kernel_rfl) (by simp) ?_
        refine AllReadyH.cons rfl (fun K hK => ?_) AllReadyH.nil
        go_simp
        have hE0 := heap_alloc_new w4 (Obj.cells #[.pointer none, .pointer none] 28 (0, 0))
        refine hK.out _ _ (range_of (at_alloc HC4.out _)) (fun hHeld => ?_)
        clear hK K
        try simp only [Act.put, List.setIfInBounds_toArray, List.set_cons_zero, List.set_cons_succ]
        refine wpAnyH_ready (rs := [6]) (by kernel_rfl) (by simp) ?_
        refine AllReadyH.cons rfl (fun K hK => ?_) AllReadyH.nil
        go_simp
        refine hK.out _ _ (range_of (at_alloc HC4.out _)) (fun hHeld => ?_)
        clear hK K
        refine wpAnyH_done (by kernel_rfl) ?_ _
        go_wp2_with fail
        change K _ _
        obtain ⟨La', Lb', ea, eb, hla, hlb, hb, tw⟩ := two_new (W := w) HB2.out.drew N3.out (Below.refl _ _) N4.out
        have ea' : La' = L3 := by simpa using ea.symm
        have eb' : Lb' = L4 := by simpa using eb.symm
        subst ea' eb'
        exact hK.out ⟨w4.heap.size, La', Lb', _, _, rfl, hla, hlb, hb.size, by have := tw.la; omega, by have := tw.lb; omega, ⟨_, 28, heap_alloc_new _ _, rfl, rfl⟩, hb.alloc hb.size _, two_made (at_alloc tw.a.blk _) (at_alloc tw.b.blk _) tw.ne⟩
      · go_simp
        have hE0 := heap_alloc_new w4 (Obj.cells #[.pointer none, .pointer none] 28 (0, 0))
        refine hK.out _ _ (range_of (at_alloc HC4.out _)) (fun hHeld => ?_)
        clear hK K
        try simp only [Act.put, List.setIfInBounds_toArray, List.set_cons_zero, List.set_cons_succ]
        refine wpAnyH_ready (rs := [4]) (by kernel_rfl) (by simp) ?_
        refine AllReadyH.cons rfl (fun K hK => ?_) AllReadyH.nil
        go_simp
        refine hK.out _ _ (range_of (at_alloc HC4.out _)) (fun hHeld => ?_)
        clear hK K
        try simp only [Act.put, List.setIfInBounds_toArray, List.set_cons_zero, List.set_cons_succ]
        refine wpAnyH_ready (rs := [6]) (by kernel_rfl) (by simp) ?_
        refine AllReadyH.cons rfl (fun K hK => ?_) AllReadyH.nil
        go_simp
        refine hK.out _ _ (range_of (at_alloc HC4.out _)) (fun hHeld => ?_)
        clear hK K
        refine wpAnyH_done (by kernel_rfl) ?_ _
        go_wp2_with fail
        change K _ _
        obtain ⟨La', Lb', ea, eb, hla, hlb, hb, tw⟩ := two_new (W := w) HB2.out.drew N3.out (Below.refl _ _) N4.out
        have ea' : La' = L3 := by simpa using ea.symm
        have eb' : Lb' = L4 := by simpa using eb.symm
        subst ea' eb'
        exact hK.out ⟨w4.heap.size, La', Lb', _, _, rfl, hla, hlb, hb.size, by have := tw.la; omega, by have := tw.lb; omega, ⟨_, 28, heap_alloc_new _ _, rfl, rfl⟩, hb.alloc hb.size _, two_made (at_alloc tw.a.blk _) (at_alloc tw.b.blk _) tw.ne⟩
    · go_simp
      have hE0 := heap_alloc_new w3 (Obj.cells #[.pointer none, .pointer none] 28 (0, 0))
      refine hK.out _ _ (range_of (at_alloc HC3.out _)) (fun hHeld => ?_)
      clear hK K
      try simp only [Act.put, List.setIfInBounds_toArray, List.set_cons_zero, List.set_cons_succ]
      refine wpAnyH_ready (rs := [3]) (by kernel_rfl) (by simp) ?_
      refine AllReadyH.cons rfl (fun K hK => ?_) AllReadyH.nil
      go_simp
      refine (new_any _ 1073741824 1073741824 3 9 0 (by omega)).mono ?_
      intro e4 w4 n4
      have n4' := n4
      obtain ⟨L4, rfl, _, _, nb4⟩ := n4'
      have hc4 : w4.heap[C]? = some (.cells cfg2.toArray 24 (0, 0)) := (nb4.block C (at_lt (at_alloc HC3.out _))).trans (at_alloc HC3.out _)
      have N4 := Lib.hid n4
      have NB4 := Lib.hid nb4
      have HC4 := Lib.hid hc4
      clear n4 hc4 nb4
      refine hK.out _ _ (range_of HC4.out) (fun hHeld => ?_)
      clear hK K
      try simp only [Act.put, List.setIfInBounds_toArray, List.set_cons_zero, List.set_cons_succ]
      have hE4 := (NB4.out.block _ (at_lt hE0)).trans hE0
      refine wpAnyH_ready (rs := [4]) (by kernel_rfl) (by simp) ?_
      refine AllReadyH.cons rfl (fun K hK => ?_) AllReadyH.nil
      go_simp
      refine hK.out _ _ (range_of HC4.out) (fun hHeld => ?_)
      clear hK K
      try simp only [Act.put, List.setIfInBounds_toArray, List.set_cons_zero, List.set_cons_succ]
      have e0 : w4.cell? ⟨(World.heap (w3)).size, 0, none⟩ = some (.pointer none) := at_cell hE4 (o := 0) rfl
      have e1 : w4.cell? ⟨(World.heap (w3)).size, 1, none⟩ = some (.pointer none) := at_cell hE4 (o := 1) rfl
      have ef : ∀ o, w4.frozen? ⟨(World.heap (w3)).size, o, none⟩ = false := at_free hE4
      refine wpAnyH_ready (rs := [6]) (by kernel_rfl) (by simp) ?_
      refine AllReadyH.cons rfl (fun K hK => ?_) AllReadyH.nil
      go_simp
      refine hK.out _ _ ?_ (fun hHeld => ?_)
      · exact range_of (at_other (at_other HC4.out (by exact Nat.ne_of_lt (at_lt HC3.out)) _) (by exact Nat.ne_of_lt (at_lt HC3.out)) _)
      clear hK K
      refine wpAnyH_done (by kernel_rfl) ?_ _
      go_wp2_with fail
      change K _ _
      obtain ⟨La', Lb', ea, eb, hla, hlb, hb, tw⟩ := two_new (W := w) HB2.out.drew N3.out ((Below.refl _ _).alloc (Nat.le_refl _) _) N4.out
      have ea' : La' = L3 := by simpa using ea.symm
      have eb' : Lb' = L4 := by simpa using eb.symm
      subst ea' eb'
      have le : w.heap.size ≤ (World.heap (w3)).size := (Nat.le_trans HB2.out.size NB3.out.size)
      have nea : (World.heap (w3)).size ≠ La' := (by rcases N3.out with ⟨l, e, _, hl, _⟩; have e : La' = l := (by simpa using e); subst e; have := at_lt hl; omega)
      have neb : (World.heap (w3)).size ≠ Lb' := (by rcases N4.out with ⟨l, e, hg, hl, _⟩; have e : Lb' = l := (by simpa using e); subst e; simp at hg; omega)
      exact hK.out ⟨_, La', Lb', _, _, rfl, hla, hlb, le, nea, neb, ⟨_, 28, at_same (at_same hE4 _) _, rfl, rfl⟩, (hb.setCell le _).setCell le _, two_made (at_other (at_other tw.a.blk (Ne.symm nea) _) (Ne.symm nea) _) (at_other (at_other tw.b.blk (Ne.symm neb) _) (Ne.symm neb) _) tw.ne⟩
  · go_simp
    have hE0 := heap_alloc_new w2.drew (Obj.cells #[.pointer none, .pointer none] 28 (0, 0))
    refine hK.out _ _ (range_of (at_alloc (at_drew HC2.out) _)) (fun hHeld => ?_)
    clear hK K
    try simp only [Act.put, List.setIfInBounds_toArray, List.set_cons_zero, List.set_cons_succ]
    refine wpAnyH_ready (rs := [1]) (by kernel_rfl) (by simp) ?_
    refine AllReadyH.cons rfl (fun K hK => ?_) AllReadyH.nil
    go_simp
    refine (new_any _ 1073741824 1073741824 3 9 0 (by omega)).mono ?_
    intro e3 w3 n3
    have n3' := n3
    obtain ⟨L3, rfl, _, _, nb3⟩ := n3'
    have hc3 : w3.heap[C]? = some (.cells cfg2.toArray 24 (0, 0)) := (nb3.block C (at_lt (at_alloc (at_drew HC2.out) _))).trans (at_alloc (at_drew HC2.out) _)
    have N3 := Lib.hid n3
    have NB3 := Lib.hid nb3
    have HC3 := Lib.hid hc3
    clear n3 hc3 nb3
    refine hK.out _ _ (range_of HC3.out) (fun hHeld => ?_)
    clear hK K
    try simp only [Act.put, List.setIfInBounds_toArray, List.set_cons_zero, List.set_cons_succ]
    have hE3 := (NB3.out.block _ (at_lt hE0)).trans hE0
    refine wpAnyH_ready (rs := [3]) (by kernel_rfl) (by simp) ?_
    refine AllReadyH.cons rfl (fun K hK => ?_) AllReadyH.nil
    go_simp
    refine (new_any _ 1073741824 1073741824 3 9 0 (by omega)).mono ?_
    intro e4 w4 n4
    have n4' := n4
    obtain ⟨L4, rfl, _, _, nb4⟩ := n4'
    have hc4 : w4.heap[C]? = some (.cells cfg2.toArray 24 (0, 0)) := (nb4.block C (at_lt HC3.out)).trans HC3.out
    have N4 := Lib.hid n4
    have NB4 := Lib.hid nb4
    have HC4 := Lib.hid hc4
    clear n4 hc4 nb4
    refine hK.out _ _ (range_of HC4.out) (fun hHeld => ?_)
    clear hK K
    try simp only [Act.put, List.setIfInBounds_toArray, List.set_cons_zero, List.set_cons_succ]
    have hE4 := (NB4.out.block _ (at_lt hE3)).trans hE3
    refine wpAnyH_ready (rs := [4]) (by kernel_rfl) (by simp) ?_
    refine AllReadyH.cons rfl (fun K hK => ?_) AllReadyH.nil
    go_simp
    refine hK.out _ _ (range_of HC4.out) (fun hHeld => ?_)
    clear hK K
    try simp only [Act.put, List.setIfInBounds_toArray, List.set_cons_zero, List.set_cons_succ]
    have e0 : w4.cell? ⟨(World.heap (w2)).size, 0, none⟩ = some (.pointer none) := at_cell hE4 (o := 0) rfl
    have e1 : w4.cell? ⟨(World.heap (w2)).size, 1, none⟩ = some (.pointer none) := at_cell hE4 (o := 1) rfl
    have ef : ∀ o, w4.frozen? ⟨(World.heap (w2)).size, o, none⟩ = false := at_free hE4
    refine wpAnyH_ready (rs := [6]) (by kernel_rfl) (by simp) ?_
    refine AllReadyH.cons rfl (fun K hK => ?_) AllReadyH.nil
    go_simp
    refine hK.out _ _ ?_ (fun hHeld => ?_)
    · exact range_of (at_other (at_other HC4.out (by exact Nat.ne_of_lt (at_lt HC2.out)) _) (by exact Nat.ne_of_lt (at_lt HC2.out)) _)
    clear hK K
    refine wpAnyH_done (by kernel_rfl) ?_ _
    go_wp2_with fail
    change K _ _
    obtain ⟨La', Lb', ea, eb, hla, hlb, hb, tw⟩ := two_new (W := w) (HB2.out.drew.alloc HB2.out.size _) N3.out (Below.refl _ _) N4.out
    have ea' : La' = L3 := by simpa using ea.symm
    have eb' : Lb' = L4 := by simpa using eb.symm
    subst ea' eb'
    have le : w.heap.size ≤ (World.heap (w2.drew)).size := (by have := HB2.out.size; simp; omega)
    have nea : (World.heap (w2.drew)).size ≠ La' := (by rcases N3.out with ⟨l, e, hg, hl, _⟩; have e : La' = l := (by simpa using e); subst e; have hg := Nat.lt_of_lt_of_le (at_lt hE0) hg; exact Nat.ne_of_lt hg)
    have neb : (World.heap (w2.drew)).size ≠ Lb' := (by rcases N4.out with ⟨l, e, hg, hl, _⟩; have e : Lb' = l := (by simpa using e); subst e; have hg := Nat.lt_of_lt_of_le (at_lt hE3) hg; exact Nat.ne_of_lt hg)
    exact hK.out ⟨_, La', Lb', _, _, rfl, hla, hlb, le, nea, neb, ⟨_, 28, at_same (at_same hE4 _) _, rfl, rfl⟩, (hb.setCell le _).setCell le _, two_made (at_other (at_other tw.a.blk (Ne.symm nea) _) (Ne.symm nea) _) (at_other (at_other tw.b.blk (Ne.symm neb) _) (Ne.symm neb) _) tw.ne⟩
end Go.Proofs.Ytbbacdaenpildaa.X

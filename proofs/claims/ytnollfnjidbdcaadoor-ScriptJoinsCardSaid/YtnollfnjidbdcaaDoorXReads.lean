/- ScriptReads: the law's function. -/
import Derived.Test.YtnollfnjidbdcaaDoorXLight
import Derived.Test.YtnollfnjidbdcaaDoorXAns
import Derived.Test.YtnollfnjidbdcaaDoorXRefQ
namespace Go.Proofs.YtnollfnjidbdcaaDoor.X
open Go.RowKit
set_option linter.unusedSimpArgs false
set_option linter.unusedVariables false

set_option maxHeartbeats 2000000 in
set_option maxRecDepth 100000 in
theorem reads_any (s : ByteArray) (hs : s.size ≤ 9223372036854775807) (w : World) (E : Env w) : Calls Tryd.prog 6 #[.string s] w (Ret w (.bool true)) := by
  have EN := Lib.hid E
  clear E
  by_cases hl : 20000 < s.size
  · have hli : (20000 : Int) < s.size := by omega
    go_enter Tryd.func6, Tryd.ntmps6
    go_wp2_with fail
    refine (answers_any w EN.out).mono ?_
    rintro e w2 ⟨rfl, hb2⟩
    go_wp2_with fail
    go_ret
    exact ⟨rfl, hb2⟩
  · have hli : ¬ (20000 : Int) < s.size := by omega
    have CP := parse_any s (by omega) w EN.out
    unfold ParsePost at CP
    have CR := Lib.hid fun w1 => refRead_any s (by omega) w1
    unfold ParsePost at CR
    obtain ⟨xs, n, e0, hp⟩ : ∃ xs n e0, parseL s.data.toList = (xs, n, e0) := ⟨_, _, _, rfl⟩
    rw [hp] at CP CR
    have HCP := Lib.hid CP
    clear CP hp
    go_enter Tryd.func6, Tryd.ntmps6
    go_wp2_with fail
    refine HCP.out.mono ?_
    rintro e w3 ⟨hb3, u, rfl, hst⟩
    have HB3 := Lib.hid hb3
    have HU := Lib.hid hst
    clear hb3 hst
    go_wp2_with fail
    refine (CR.out w3).mono ?_
    rintro e w4 ⟨hb4, v, rfl, hst⟩
    have HB4 := Lib.hid (HB3.out.trans (hb4.mono HB3.out.size))
    have HU4 := Lib.hid (HU.out.below hb4)
    have HV := Lib.hid hst
    clear hb4 hst
    go_wp2_with fail
    refine (answers_any w4 (EN.out.below HB4.out EN.out.gl)).mono ?_
    rintro e w5 ⟨rfl, hb5⟩
    have HB5 := Lib.hid (HB4.out.trans (hb5.mono HB4.out.size))
    have HU5 := Lib.hid (HU4.out.below hb5)
    have HV5 := Lib.hid (HV.out.below hb5)
    clear hb5
    go_wp2_with fail
    refine (same_any u v xs _ HU5.out HV5.out).mono ?_
    rintro e w6 ⟨rfl, hb6⟩
    have HB6 := Lib.hid (HB5.out.trans (hb6.mono HB5.out.size))
    clear hb6
    go_wp2_with fail
    go_ret
    exact ⟨rfl, HB6.out⟩
end Go.Proofs.YtnollfnjidbdcaaDoor.X

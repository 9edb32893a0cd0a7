/- The walk of LogTells. -/
import Derived.Test.YtghahdddjpofdaaLAwake
import Derived.Test.YtghahdddjpofdaaLPure
set_option linter.unusedVariables false
set_option linter.unusedSimpArgs false
namespace Go.Proofs.Ytghahdddjpofdaa
open Go.RowKit

set_option maxHeartbeats 1000000 in
theorem logTells_walk (r s : ByteArray) (W : World) (h0 : r.size ≤ 140737488351232) (h1 : s.size ≤ 140737488351232) :
    Calls Try.prog 3 #[.string r, .string s] W fun e w' => e = .returned (.bool true) ∧ Below W.heap.size W w' := by
  go_enter Try.func3, Try.ntmps3
  go_wp2_with fail
  refine (awake_any W).mono ?_
  rintro e w1 ⟨rfl, hF⟩
  have F1 := Lib.hid hF
  clear hF
  by_cases hr : 4096 < r.size
  · have hd1 : decide ((r.size : Int) > 4096) = true := by rw [decide_eq_true_iff]; omega
    go_wp2_with fail
    go_ret
    exact ⟨rfl, F1.out.nil_below⟩
  · have hd1 : decide ((r.size : Int) > 4096) = false := by rw [decide_eq_false_iff_not]; omega
    by_cases hs : 4096 < s.size
    · have hd2 : decide ((s.size : Int) > 4096) = true := by rw [decide_eq_true_iff]; omega
      go_wp2_with fail
      go_ret
      exact ⟨rfl, F1.out.nil_below⟩
    · have hd2 : decide ((s.size : Int) > 4096) = false := by rw [decide_eq_false_iff_not]; omega
      go_wp2_with fail
      refine (frame_any r w1).mono ?_
      rintro e w2 ⟨rfl, hF⟩
      have F2 := Lib.hid (F1.out.trans hF (by simp))
      clear hF
      go_wp2_with fail
      refine (rframe_any r w2 (by omega)).mono ?_
      rintro e w3 ⟨rfl, hF⟩
      have F3 := Lib.hid (F2.out.trans hF (by simp))
      clear hF
      generalize frameS r = f
      generalize frameE r = fe
      have C4 := scan_any s w3 (by omega)
      have C5 := fun w => rscan_any s w (by omega)
      unfold ScanP at C4 C5
      have hle := scanL_le s.data.toList
      have hll := len_le (scanL s.data.toList)
      have hsz : s.data.toList.length = s.size := rfl
      generalize hL : scanL s.data.toList = L at C4 C5 hle hll
      clear hL
      have D5 := Lib.hid C5
      clear C5
      go_wp2_with fail
      refine C4.mono ?_
      rintro e w4 ⟨v1, rfl, hO1, hF⟩
      have F4 := Lib.hid (F3.out.trans hF (by simp))
      obtain ⟨a1, c1, rfl⟩ := own_slice hO1
      have O1 := Lib.hid (StrsAt.of_own hO1)
      clear C4 hO1 hF
      go_wp2_with fail
      refine (D5.out w4).mono ?_
      rintro e w5 ⟨v2, rfl, hO2, hF⟩
      have F5 := Lib.hid (F4.out.trans hF (by simp))
      obtain ⟨a2, c2, rfl⟩ := own_slice hO2
      have O2 := Lib.hid (StrsAt.of_own hO2)
      have O3 := Lib.hid (O1.out.fr hF)
      clear hO2 hF D5
      go_wp2_with fail
      refine (sum_any r w5 h0).mono ?_
      rintro e w6 ⟨rfl, hF⟩
      have F6 := Lib.hid (F5.out.trans hF (by simp))
      have O4 := Lib.hid (O2.out.fr hF)
      have O5 := Lib.hid (O3.out.fr hF)
      clear hF
      go_wp2_with fail
      refine (rsum_any r w6 h0).mono ?_
      rintro e w7 ⟨rfl, rfl⟩
      generalize sumL r.data.toList = su
      generalize hA : lenA L = A at hle
      go_wp2_with fail
      have C7 := same_any a1 a2 L.length L.length c1 c2 L L w6 (by unfold maxLen; omega) (by unfold maxLen; omega) O5.out O4.out
      rw [decide_eq_true rfl] at C7
      refine C7.mono ?_
      rintro e w8 ⟨rfl, hF⟩
      have F8 := Lib.hid (F6.out.trans hF (by simp))
      clear C7 hF
      go_wp2_with fail
      go_ret
      exact ⟨rfl, F8.out.nil_below⟩
end Go.Proofs.Ytghahdddjpofdaa

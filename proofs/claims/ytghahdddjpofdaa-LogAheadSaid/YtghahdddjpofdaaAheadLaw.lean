/- The walk of LogAhead. -/
import Derived.Test.YtghahdddjpofdaaLAwake
import Derived.Test.YtghahdddjpofdaaLPure
set_option linter.unusedVariables false
set_option linter.unusedSimpArgs false
namespace Go.Proofs.Ytghahdddjpofdaa
open Go.RowKit

theorem lenA_append (L M : List (List UInt8)) : lenA (L ++ M) = lenA L + lenA M := by simp [lenA]
theorem StrsAt.take {w : World} {a : Option Addr} {n k : Nat} {L : List (List UInt8)} (h : StrsAt w a n L) (hk : k ≤ n) : StrsAt w a k (L.take k) := by
  have hl := h.len
  refine ⟨by rw [List.length_take]; omega, fun h0 => ?_⟩
  obtain ⟨b, o, rfl, hb, hc⟩ := h.at_ (by omega)
  refine ⟨b, o, rfl, hb, fun j r hj => hc j r ?_⟩
  rw [List.getElem?_take] at hj
  split at hj
  · exact hj
  · cases hj
/-- What LogAhead asks of the two scans. -/
structure Ahead (s more : ByteArray) (L M : List (List UInt8)) : Prop where
  sub : M.take L.length = L
  len : L.length ≤ M.length
  at_ : lenA L ≤ lenA M
  le : lenA L ≤ s.size
  leM : lenA M ≤ lenA L + more.size
  cut : s.extract 0 (lenA L) = ⟨(joinL L).toArray⟩
  good : allGood L
theorem ahead (s more : ByteArray) : Ahead s more (scanL s.data.toList) (scanL (s.extract 0 (lenA (scanL s.data.toList)) ++ more).data.toList) := by
  have hle := scanL_le s.data.toList
  have hg := scanL_good s.data.toList
  have hcut : (s.extract 0 (lenA (scanL s.data.toList))).data.toList = joinL (scanL s.data.toList) := by
    rw [ext_data, List.drop_zero, Nat.sub_zero, scanL_take]
  have hx : (s.extract 0 (lenA (scanL s.data.toList)) ++ more).data.toList = joinL (scanL s.data.toList) ++ more.data.toList := by
    rw [ByteArray.data_append, Array.toList_append, hcut]
  have hle2 := scanL_le (s.extract 0 (lenA (scanL s.data.toList)) ++ more).data.toList
  rw [hx, scanL_join _ _ hg, lenA_append, List.length_append, joinL_length] at hle2
  have hms : more.data.toList.length = more.size := rfl
  refine ⟨?_, ?_, ?_, hle, ?_, by rw [← hcut], hg⟩
  · rw [hx, scanL_join _ _ hg, List.take_left]
  · rw [hx, scanL_join _ _ hg, List.length_append]; omega
  · rw [hx, scanL_join _ _ hg, lenA_append]; omega
  · rw [hx, scanL_join _ _ hg, lenA_append]; omega
set_option maxHeartbeats 1000000 in
theorem logAhead_walk (s more : ByteArray) (W : World) (h0 : s.size ≤ 140737488351232) (h1 : more.size ≤ 140737488351232) :
    Calls Try.prog 6 #[.string s, .string more] W fun e w' => e = .returned (.bool true) ∧ Below W.heap.size W w' := by
  go_enter Try.func6, Try.ntmps6
  go_wp2_with fail
  refine (awake_any W).mono ?_
  rintro e w1 ⟨rfl, hF⟩
  have F1 := Lib.hid hF
  clear hF
  by_cases hr : 4096 < s.size + more.size
  · have hd1 : decide ((s.size : Int) + more.size > 4096) = true := by rw [decide_eq_true_iff]; omega
    go_wp2_with fail
    go_ret
    exact ⟨rfl, F1.out.nil_below⟩
  · have hd1 : decide ((s.size : Int) + more.size > 4096) = false := by rw [decide_eq_false_iff_not]; omega
    have hA := ahead s more
    have C4 := scan_any s w1 (by omega)
    have hxs : (s.extract 0 (lenA (scanL s.data.toList)) ++ more).size ≤ 1000000 := by
      have e : (s.extract 0 (lenA (scanL s.data.toList)) ++ more).size = (s.extract 0 (lenA (scanL s.data.toList))).size + more.size := ByteArray.size_append
      have e2 : (s.extract 0 (lenA (scanL s.data.toList))).size ≤ s.size := by rw [ByteArray.size_extract]; omega
      omega
    have C5 := fun w => scan_any (s.extract 0 (lenA (scanL s.data.toList)) ++ more) w hxs
    unfold ScanP at C4 C5
    generalize scanL (s.extract 0 (lenA (scanL s.data.toList)) ++ more).data.toList = M at hA C5
    generalize scanL s.data.toList = L at hA C4 C5
    have hll := len_le L
    have hlm := len_le M
    have a1 := hA.sub
    have a2 := hA.len
    have a3 := hA.at_
    have a4 := hA.le
    have a5 := hA.leM
    have a6 := hA.cut
    have HA := Lib.hid hA
    have A1 := Lib.hid a1
    have A6 := Lib.hid a6
    have D5 := Lib.hid C5
    clear C5 hA a1 a6 hxs
    go_wp2_with fail
    refine C4.mono ?_
    rintro e w2 ⟨v1, rfl, hO1, hF⟩
    have F2 := Lib.hid (F1.out.trans hF (by simp))
    obtain ⟨b1, c1, rfl⟩ := own_slice hO1
    have O1 := Lib.hid (StrsAt.of_own hO1)
    clear C4 hO1 hF
    generalize hAL : lenA L = A at *
    have hcs : (s.extract 0 A).size = A := by rw [ByteArray.size_extract]; omega
    have hq : ¬ 9223372036854775807 < A + more.size := by omega
    go_wp2_with fail
    refine (D5.out w2).mono ?_
    rintro e w3 ⟨v2, rfl, hO2, hF⟩
    have F3 := Lib.hid (F2.out.trans hF (by simp))
    obtain ⟨b2, c2, rfl⟩ := own_slice hO2
    have O2 := Lib.hid (StrsAt.of_own hO2)
    have O3 := Lib.hid (O1.out.fr hF)
    have hcap : M.length ≤ c2 := by
      rcases hO2.2 with ⟨hv, hz⟩ | ⟨g, cap, cur, hv, _, _, hn, _⟩
      · injection hv with _ h2 h3; omega
      · injection hv with _ h2 h3; omega
    clear hO2 hF D5
    generalize hAM : lenA M = B at *
    have hd2 : decide (A > s.size) = false := by rw [decide_eq_false_iff_not]; omega
    have hd3 : decide (B < A) = false := by rw [decide_eq_false_iff_not]; omega
    have hd4 : decide (M.length < L.length) = false := by rw [decide_eq_false_iff_not]; omega
    go_wp2_with fail
    have hS := O2.out.take (k := L.length) a2
    rw [A1.out] at hS
    have C7 := same_any b1 b2 L.length L.length c1 c2 L L w3 (by unfold maxLen; omega) (by unfold maxLen; omega) O3.out hS
    rw [decide_eq_true rfl] at C7
    refine C7.mono ?_
    rintro e w4 ⟨rfl, hF⟩
    have F4 := Lib.hid (F3.out.trans hF (by simp))
    have O4 := Lib.hid (O3.out.fr hF)
    clear C7 hF hS
    have hj1 : joinS L = s.extract 0 A := by unfold joinS; rw [if_pos HA.out.good, A6.out]
    have hj2 : joinE L = 0 := by unfold joinE; rw [if_pos HA.out.good]
    have C8 := join_any b1 L.length c1 L w4 O4.out (by omega)
    rw [hj1, hj2] at C8
    clear hj1 hj2
    go_wp2_with fail
    refine C8.mono ?_
    rintro e w5 ⟨rfl, hF⟩
    have F5 := Lib.hid (F4.out.trans hF (by simp))
    clear C8 hF
    go_wp2_with fail
    go_ret
    exact ⟨rfl, F5.out.nil_below⟩
end Go.Proofs.Ytghahdddjpofdaa

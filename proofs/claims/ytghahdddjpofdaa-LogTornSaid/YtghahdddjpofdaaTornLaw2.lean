/- The walk of LogTorn. -/
import Derived.Test.YtghahdddjpofdaaLOpen
import Derived.Deep.RegionHeldLaw
import Derived.Deep.DrawnRows
import Derived.Laws.MakeOwn
set_option linter.unusedVariables false
set_option linter.unusedSimpArgs false
namespace Go.Proofs.Ytghahdddjpofdaa
open Go.RowKit

theorem bcells_zeros2 (k : Nat) : bcells (List.replicate k 0) = List.replicate k (.int .u8 0) := by simp [bcells]
/-- The bytes that LogTorn scans. -/
theorem torn_scan (L : List (List UInt8)) (r : List UInt8) (S A X : ByteArray) (kk m : Nat) (hS : S.data.toList = joinL L) (hA : A.data.toList = frameL r) (hk : kk < A.size) (hL : allGood L) (hr : goodL r)
    (hX : X = S ++ A.extract 0 kk ++ ⟨Array.replicate m 0⟩) : scanL X.data.toList = L := by
  have hkl : kk < (frameL r).length := by rw [← hA]; exact hk
  rw [hX, ByteArray.data_append, Array.toList_append, ByteArray.data_append, Array.toList_append, hS, ext_data, hA, Array.toList_replicate, List.drop_zero, Nat.sub_zero, List.append_assoc]
  exact scanL_torn L r kk m hL hr hkl
set_option maxHeartbeats 1000000 in
theorem logTorn_walk (a0 : Option Addr) (len0 cap0 : Nat) (L : List (List UInt8)) (last : ByteArray) (cut more : Int) (W : World) (f0 : StrsArg W a0 len0 L) (hlast : last.size ≤ 140737488351232)
    (w2 : (Lit.int .u16 cut).wf = true) (w3 : (Lit.int .u8 more).wf = true) :
    Calls Try.prog 5 #[.slice a0 len0 cap0, .string last, .int .u16 cut, .int .u8 more] W fun e w' => e = .returned (.bool true) ∧ Below W.heap.size W w' := by
  obtain ⟨hfew, hA⟩ := f0
  have hlen := hA.len
  have A0 := Lib.hid hA
  clear hA
  obtain ⟨hm0, hm1⟩ := wf_u8 w3
  obtain ⟨k, rfl⟩ := Int.eq_ofNat_of_zero_le hm0
  have hk : k ≤ 255 := by omega
  obtain ⟨hc0, hc1⟩ := wf_u16 w2
  obtain ⟨c, rfl⟩ := Int.eq_ofNat_of_zero_le hc0
  have hc : c ≤ 65535 := by omega
  clear w2 w3 hm0 hm1 hc0 hc1
  go_enter Try.func5, Try.ntmps5
  go_wp2_with fail
  refine (awake_any W).mono ?_
  rintro e w1 ⟨rfl, hF⟩
  have F1 := Lib.hid hF
  have A1 := Lib.hid (A0.out.fr hF)
  clear hF A0
  go_wp2_with fail
  go_loopg [9, 24] len0 (fun k s i wr => ∃ (j : Nat) (m : Int), k = len0 - j ∧ j ≤ len0 ∧ i = .int .i64 j ∧ s = .int .i64 m ∧ w1 = wr)
  case atStart => exact ⟨0, _, rfl, by omega, rfl, rfl, rfl⟩
  case round =>
    obtain ⟨j, m, rfl, hj, rfl, rfl, rfl⟩ := hrel
    by_cases hjn : j < len0
    · have hd : decide (j < len0) = true := by rw [decide_eq_true_iff]; omega
      obtain ⟨b1, o1, rfl, hb1, hc1⟩ := A1.out.at_ (by omega)
      have g1 : L[j]? = some (L[j]'(by omega)) := List.getElem?_eq_getElem (by omega)
      have k1 := hc1 j _ g1
      clear hc1 g1
      generalize L[j]'(by omega) = x at k1
      unfold str at k1
      go_wp2_with fail
      go_roundg (len0 - (j + 1))
      case measure => omega
      case rel => exact ⟨j + 1, _, rfl, by omega, rfl, rfl, rfl⟩
    · have hd : decide (j < len0) = false := by rw [decide_eq_false_iff_not]; omega
      by_cases hm : 4096 < m
      · have hd1 : decide (m > 4096) = true := by rw [decide_eq_true_iff]; omega
        go_wp2_with fail
        go_ret
        exact ⟨rfl, F1.out.nil_below⟩
      · have hd1 : decide (m > 4096) = false := by rw [decide_eq_false_iff_not]; omega
        by_cases hl : 20 < len0
        · have hd2 : decide ((len0 : Int) > 20) = true := by rw [decide_eq_true_iff]; omega
          go_wp2_with fail
          go_ret
          exact ⟨rfl, F1.out.nil_below⟩
        · have hd2 : decide ((len0 : Int) > 20) = false := by rw [decide_eq_false_iff_not]; omega
          have C2 := join_any a0 len0 cap0 L w1 A1.out (by omega)
          have C3 := fun w => frame_any last w
          by_cases hg : allGood L
          · have hj1 : joinS L = ⟨(joinL L).toArray⟩ := by unfold joinS; rw [if_pos hg]
            have hj2 : joinE L = 0 := by unfold joinE; rw [if_pos hg]
            rw [hj1, hj2] at C2
            obtain ⟨S, hSd⟩ : ∃ S : ByteArray, S = ⟨(joinL L).toArray⟩ := ⟨_, rfl⟩
            rw [← hSd] at C2
            have hSl : S.data.toList = joinL L := by rw [hSd]
            have hzs : S.size = lenA L := by rw [hSd, bsize, joinL_length]
            have hle := lenA_le L hg
            have SL := Lib.hid hSl
            clear hSl hSd hj1 hj2
            by_cases hr : goodL last.data.toList
            · have hfs : frameS last = ⟨(frameL last.data.toList).toArray⟩ := by unfold frameS; rw [if_pos hr]
              have hfe : frameE last = 0 := by unfold frameE; rw [if_pos hr]
              rw [hfs, hfe] at C3
              obtain ⟨A, hAd⟩ : ∃ A : ByteArray, A = ⟨(frameL last.data.toList).toArray⟩ := ⟨_, rfl⟩
              rw [← hAd] at C3
              have hAl : A.data.toList = frameL last.data.toList := by rw [hAd]
              have hza : A.size = last.data.toList.length + 8 := by rw [hAd, bsize, frameL_length]
              have hr4 := hr.2
              have AL := Lib.hid hAl
              have TS := Lib.hid (fun kk m X hk => torn_scan L last.data.toList S A X kk m SL.out hAl hk hg hr)
              have D3 := Lib.hid C3
              clear hfs hfe hAl hAd hg hr C3
              have hz1 : 1 ≤ A.size := by omega
              have hz2 : A.size ≤ 408 := by omega
              obtain ⟨z, hz⟩ : ∃ z, A.size = z := ⟨_, rfl⟩
              have q1 : Int.tmod (c : Int) (A.size : Int) = ((c % A.size : Nat) : Int) := by rw [Int.tmod_eq_emod_of_nonneg (by omega)]; omega
              have hkk : c % A.size < A.size := Nat.mod_lt _ (by omega)
              clear hza hr4 hz z
              go_wp2_with fail
              refine C2.mono ?_
              rintro e w2 ⟨rfl, hF⟩
              have F2 := Lib.hid (F1.out.trans hF (by simp))
              have A2 := Lib.hid (A1.out.fr hF)
              clear C2 hF
              go_wp2_with fail
              refine (D3.out w2).mono ?_
              rintro e w3 ⟨rfl, hF⟩
              have F3 := Lib.hid (F2.out.trans hF (by simp))
              have A3 := Lib.hid (A2.out.fr hF)
              clear hF D3
              go_wp2_with fail
              clear q1
              rw [show ((c : Int) % (A.size : Int)) = ((c % A.size : Nat) : Int) by omega]
              generalize c % A.size = kk at hkk ⊢
              have hes : (A.extract 0 kk).size = kk := by rw [ByteArray.size_extract]; omega
              have q2 : IntKind.i64.wrap (k : Int) = (k : Int) := IntWalk.i64_in _ (by omega)
              have q3 : IntKind.i64.wrap ((k : Int) + A.size) = (k : Int) + A.size := IntWalk.i64_in _ (by omega)
              obtain ⟨m2, hm2⟩ : ∃ m2 : Nat, m2 = k + A.size - kk := ⟨_, rfl⟩
              have q4 : IntKind.i64.wrap ((k : Int) + A.size - kk) = (m2 : Int) := by rw [hm2, IntWalk.i64_in _ (by omega)]; omega
              have hm3 : m2 ≤ 1000 := by omega
              have hq1 : ¬ 9223372036854775807 < S.size + kk := by omega
              have hq2 : (kk : Int) ≤ A.size := by omega
              have hab : (S ++ A.extract 0 kk).size = S.size + kk := by rw [ByteArray.size_append, hes]
              clear hm2
              have hinf := infoU8
              have hMK : ∀ w : World, (Instr.makeSlice 34 (.int .i64 m2) (.int .i64 m2)).run Try.prog w = .ok (.slice (some ⟨w.heap.size, 0, none⟩) m2 m2) (w.alloc (.cells (Array.replicate m2 (.int .u8 0)) 5)) := by
                intro w
                obtain ⟨i, hi, hz0, hz1, hz2⟩ := info_parts hinf
                have h := run_make (P := Try.prog) w 34 5 i (.int .u8 0) Try.underlying34 hi hz0 .i64 .i64 m2 m2 (by omega) (by omega) (by rw [hz2]; omega) (by omega)
                rw [hz1, Int.toNat_natCast, show (Value.int .u8 0).cells = Array.replicate 1 (.int .u8 0) from rfl, madeCells_replicate _ _ _ (by decide), Nat.mul_one, List.toArray_replicate] at h
                exact h
              have hCV : (convert 34 9 (.slice (some ⟨w3.heap.size, 0, none⟩) m2 m2)).run Try.prog (w3.alloc (.cells (Array.replicate m2 (.int .u8 0)) 5)).drew = .ok (.string ⟨Array.replicate m2 0⟩) (w3.alloc (.cells (Array.replicate m2 (.int .u8 0)) 5)).drew := by
                have h := run_bytes_str Try.prog (w3.alloc (.cells (Array.replicate m2 (.int .u8 0)) 5)).drew 34 9 5 w3.heap.size 0 m2 m2 (List.replicate m2 0) Try.underlying34 Try.underlying5 Try.underlying9 List.length_replicate (by
                  intro j v hv
                  rw [bcells_zeros2] at hv
                  rw [Nat.zero_add]
                  have hr := (Row.new w3 (List.replicate m2 (.int .u8 0)) 5).drew
                  rw [List.toArray_replicate] at hr
                  exact (hr.cell j).trans hv)
                rw [List.toArray_replicate] at h
                exact h
              have C4 : ∀ X w, X = S ++ A.extract 0 kk ++ ⟨Array.replicate m2 0⟩ → Calls Try.prog 10 #[.string X] w fun e w' => ∃ v, e = .returned (.tuple #[v, .int .i64 S.size]) ∧ w'.ownsRow w.heap.size 9 1 v len0 (L.map str) ∧ Fr [] w w' := by
                intro X w hX
                have h := scan_any X w (by rw [hX, ByteArray.size_append, hab, show (⟨Array.replicate m2 0⟩ : ByteArray).size = m2 from Array.size_replicate]; omega)
                unfold ScanP at h
                rw [TS.out kk m2 X hkk hX, ← hzs, hlen] at h
                exact h
              have D4 := Lib.hid C4
              clear C4 hinf
              go_region_held_law (fun _ => True) (trivial) (first | (go_at_call 10; refine (D4.out _ _ rfl).mono ?_; rintro e w4 ⟨v1, rfl, hO1, hF⟩))
              all_goals
                have F4 := Lib.hid ((((F3.out.alloc _).drewN 1).trans hF (by simp)) : Fr [] W w4)
                have A4 := Lib.hid (((A3.out.fr (((Fr.refl [] w3).alloc _).drewN 1)).fr hF) : StrsAt w4 a0 len0 L)
                obtain ⟨b1, c1, rfl⟩ := own_slice hO1
                have hO := hO1
                rw [← hlen] at hO
                have hO2 := StrsAt.of_own hO
                rw [hlen] at hO2
                have O1 := Lib.hid hO2
                clear hO hO1 hO2 hF hMK hCV
                go_wp2_with fail
                have C5 := same_any a0 b1 len0 len0 cap0 c1 L L w4 (by unfold maxLen; omega) (by unfold maxLen; omega) A4.out O1.out
                rw [decide_eq_true rfl] at C5
                refine C5.mono ?_
                rintro e w5 ⟨rfl, hF⟩
                have F5 := Lib.hid (F4.out.trans hF (by simp))
                clear C5 hF
                go_wp2_with fail
                go_ret
                exact ⟨rfl, F5.out.nil_below⟩
            · have hfs : frameS last = ⟨#[]⟩ := by unfold frameS; rw [if_neg hr]
              have hfe : frameE last = 3 := by unfold frameE; rw [if_neg hr]
              rw [hfs, hfe] at C3
              have D3 := Lib.hid C3
              clear hfs hfe C3 hg hr
              go_wp2_with fail
              refine C2.mono ?_
              rintro e w2 ⟨rfl, hF⟩
              have F2 := Lib.hid (F1.out.trans hF (by simp))
              clear C2 hF
              go_wp2_with fail
              refine (D3.out w2).mono ?_
              rintro e w3 ⟨rfl, hF⟩
              have F3 := Lib.hid (F2.out.trans hF (by simp))
              clear hF D3
              go_wp2_with fail
              go_ret
              exact ⟨rfl, F3.out.nil_below⟩
          · have hj1 : joinS L = ⟨#[]⟩ := by unfold joinS; rw [if_neg hg]
            have hj2 : joinE L = 3 := by unfold joinE; rw [if_neg hg]
            rw [hj1, hj2] at C2
            clear hj1 hj2 hg
            have D3 := Lib.hid C3
            clear C3
            go_wp2_with fail
            refine C2.mono ?_
            rintro e w2 ⟨rfl, hF⟩
            have F2 := Lib.hid (F1.out.trans hF (by simp))
            clear C2 hF
            go_wp2_with fail
            refine (D3.out w2).mono ?_
            rintro e w3 ⟨rfl, hF⟩
            have F3 := Lib.hid (F2.out.trans hF (by simp))
            clear hF D3
            go_wp2_with fail
            go_ret
            exact ⟨rfl, F3.out.nil_below⟩
end Go.Proofs.Ytghahdddjpofdaa

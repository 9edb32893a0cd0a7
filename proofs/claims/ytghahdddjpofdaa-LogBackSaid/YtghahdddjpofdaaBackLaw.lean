/- The walk of LogBack. -/
import Derived.Test.YtghahdddjpofdaaLOpen
set_option linter.unusedVariables false
set_option linter.unusedSimpArgs false
namespace Go.Proofs.Ytghahdddjpofdaa
open Go.RowKit

def lenS (L : List (List UInt8)) : Nat := (L.map List.length).sum
theorem lenA_eq (L : List (List UInt8)) : lenA L = lenS L + 8 * L.length := by
  induction L with
  | nil => rfl
  | cons r L ih => simp [lenA, lenS] at ih ⊢; omega
theorem lenS_snoc (L : List (List UInt8)) (r : List UInt8) : lenS (L ++ [r]) = lenS L + r.length := by simp [lenS]
theorem lenS_le (L : List (List UInt8)) (h : allGood L) : lenS L ≤ 400 * L.length := by
  have h1 := lenA_le L h
  have h2 := lenA_eq L
  omega
theorem bcells_zeros (k : Nat) : bcells (List.replicate k 0) = List.replicate k (.int .u8 0) := by simp [bcells]
/-- What the sum of the records' lengths is, where the records are such as have frames. -/
structure SumAt (n0 : Nat) (L : List (List UInt8)) (m : Int) : Prop where
  eq : L.length ≤ 20 → allGood L → m = n0 + lenS L
theorem SumAt.snoc {n0 : Nat} {L : List (List UInt8)} {m : Int} (h : SumAt n0 L m) (r : List UInt8) (h0 : n0 ≤ 400) : SumAt n0 (L ++ [r]) (wrap64 (m + r.length)) := by
  refine ⟨fun hl hg => ?_⟩
  rw [List.length_append, List.length_singleton] at hl
  have hg1 : allGood L := fun x hx => hg x (by simp [hx])
  have hg2 : goodL r := hg r (by simp)
  have h1 := h.eq (by omega) hg1
  have h2 := lenS_le L hg1
  have h3 := hg2.2
  rw [IntWalk.wrap64_in _ (by omega), lenS_snoc, h1]
  omega
set_option maxHeartbeats 1000000 in
theorem logBack_walk (a0 : Option Addr) (len0 cap0 : Nat) (L : List (List UInt8)) (more : Int) (W : World) (f0 : StrsArg W a0 len0 L) (w1 : (Lit.int .u8 more).wf = true) :
    Calls Try.prog 4 #[.slice a0 len0 cap0, .int .u8 more] W fun e w' => e = .returned (.bool true) ∧ Below W.heap.size W w' := by
  obtain ⟨hfew, hA⟩ := f0
  have hlen := hA.len
  have A0 := Lib.hid hA
  clear hA
  obtain ⟨hm0, hm1⟩ := wf_u8 w1
  obtain ⟨k, rfl⟩ := Int.eq_ofNat_of_zero_le hm0
  have hk : k ≤ 255 := by omega
  clear w1 hm0 hm1
  go_enter Try.func4, Try.ntmps4
  go_wp2_with fail
  refine (awake_any W).mono ?_
  rintro e w1 ⟨rfl, hF⟩
  have F1 := Lib.hid hF
  have A1 := Lib.hid (A0.out.fr hF)
  clear hF A0
  go_wp2_with fail
  go_loopg [5, 15] len0 (fun k s i wr => ∃ (j : Nat) (m : Int), k = len0 - j ∧ j ≤ len0 ∧ i = .int .i64 j ∧ s = .int .i64 m ∧ SumAt 0 (L.take j) m ∧ w1 = wr)
  case atStart => exact ⟨0, 0, rfl, by omega, rfl, rfl, ⟨fun _ _ => by simp [lenS]⟩, rfl⟩
  case round =>
    obtain ⟨j, m, rfl, hj, rfl, rfl, hS, rfl⟩ := hrel
    have S := Lib.hid hS
    clear hS
    by_cases hjn : j < len0
    · have hd : decide (j < len0) = true := by rw [decide_eq_true_iff]; omega
      obtain ⟨b1, o1, rfl, hb1, hc1⟩ := A1.out.at_ (by omega)
      have g1 : L[j]? = some (L[j]'(by omega)) := List.getElem?_eq_getElem (by omega)
      have k1 := hc1 j _ g1
      have t1 := take_snocL L j _ g1
      have T1 := Lib.hid t1
      clear hc1 t1 g1
      generalize L[j]'(by omega) = x at k1 T1
      unfold str at k1
      go_wp2_with fail
      go_roundg (len0 - (j + 1))
      case measure => omega
      case rel => exact ⟨j + 1, _, rfl, by omega, rfl, rfl, by rw [T1.out]; exact S.out.snoc x (by omega), rfl⟩
    · have hd : decide (j < len0) = false := by rw [decide_eq_false_iff_not]; omega
      have hfull : L.take j = L := List.take_of_length_le (by omega)
      have hS := S.out
      rw [hfull] at hS
      have S2 := Lib.hid hS
      clear hfull hS S
      by_cases hm : 4096 < m
      · have hd1 : decide (m > 4096) = true := by rw [decide_eq_true_iff]; omega
        go_wp2_with fail
        go_ret
        exact ⟨rfl, F1.out.nil_below⟩
      · have hd1 : decide (m > 4096) = false := by rw [decide_eq_false_iff_not]; omega
        by_cases hl : 20 < len0
        · have hd2 : decide ((len0 : Int) > 20) = true := by rw [decide_eq_true_iff]; omega
          go_wp2_with fail
          go_ret
          exact ⟨rfl, F1.out.nil_below⟩
        · have hd2 : decide ((len0 : Int) > 20) = false := by rw [decide_eq_false_iff_not]; omega
          have C2 := join_any a0 len0 cap0 L w1 A1.out (by omega)
          by_cases hg : allGood L
          · have hj1 : joinS L = ⟨(joinL L).toArray⟩ := by unfold joinS; rw [if_pos hg]
            have hj2 : joinE L = 0 := by unfold joinE; rw [if_pos hg]
            rw [hj1, hj2] at C2
            have hsum := S2.out.eq (by omega) hg
            have hjl := joinL_length L
            rw [lenA_eq] at hjl
            have hz := bsize (joinL L)
            have hle := lenS_le L hg
            have G := Lib.hid hg
            clear hj1 hj2 hg
            obtain ⟨S, hSd⟩ : ∃ S : ByteArray, S = ⟨(joinL L).toArray⟩ := ⟨_, rfl⟩
            rw [← hSd] at C2 hz
            have hSl : S.data.toList = joinL L := by rw [hSd]
            have SL := Lib.hid hSl
            have hzs : S.size = lenS L + 8 * L.length := by omega
            have hd3 : decide ((4096 : Int) < (lenS L : Nat)) = false := by rw [decide_eq_false_iff_not]; omega
            clear hz hjl hSl hSd hm
            go_wp2_with fail
            refine C2.mono ?_
            rintro e w2 ⟨rfl, hF⟩
            have F2 := Lib.hid (F1.out.trans hF (by simp))
            have A2 := Lib.hid (A1.out.fr hF)
            clear C2 hF
            go_wp2_with ((with_reducible refine wpList_make_row rfl (.tmp 44) (.tmp 44) 34 rfl 5 Try.underlying34 _ 1 1 infoU8 (.int .u8 0) ?_ (by decide) .u8 .u8 k k k ?_ ?_ (by omega) (by omega) ?_ ?_ ?_); exact rfl; exact rfl; exact rfl; exact rfl; exact rfl)
            intro w3 hr3 hs3 hF3
            have hr3 : Row w3 w2.heap.size (bcells (List.replicate k 0)) 5 := by rw [bcells_zeros]; simpa using hr3
            have hG3 : ∀ j v, (bcells (List.replicate k 0))[j]? = some v → w3.cell? ⟨w2.heap.size, 0 + j, none⟩ = some v := fun j v hv => by
              rw [hr3.cell, Nat.zero_add]; exact hv
            have HG3 := Lib.hid hG3
            have F3 := Lib.hid (F2.out.trans hF3 (by simp))
            have A3 := Lib.hid (A2.out.fr hF3)
            have hrl : (List.replicate k (0 : UInt8)).length = k := List.length_replicate
            clear hr3 hs3 hF3 hG3
            go_wp2_with ((with_reducible refine wpList_bytes_str rfl 34 9 5 (.tmp 45) rfl Try.underlying34 Try.underlying5 Try.underlying9 (List.replicate k 0) w2.heap.size 0 k k hrl HG3.out ?_ ?_); exact rfl)
            have hsc : scanL (S ++ ⟨Array.replicate k 0⟩ : ByteArray).data.toList = L := by
              rw [ByteArray.data_append, Array.toList_append, SL.out, Array.toList_replicate]
              exact scanL_zeros L k G.out
            have C4 := scan_any (S ++ ⟨Array.replicate k 0⟩) w3 (by rw [ByteArray.size_append, show (⟨Array.replicate k 0⟩ : ByteArray).size = k from Array.size_replicate]; omega)
            unfold ScanP at C4
            rw [hsc, show lenA L = S.size by rw [lenA_eq]; omega] at C4
            clear hsc
            refine C4.mono ?_
            rintro e w4 ⟨v1, rfl, hO1, hF⟩
            have F4 := Lib.hid (F3.out.trans hF (by simp))
            have A4 := Lib.hid (A3.out.fr hF)
            obtain ⟨b1, c1, rfl⟩ := own_slice hO1
            have O1 := Lib.hid (StrsAt.of_own hO1)
            clear C4 hO1 hF
            go_wp2_with fail
            have hO := O1.out
            rw [hlen] at hO
            have C5 := same_any a0 b1 len0 len0 cap0 c1 L L w4 (by unfold maxLen; omega) (by unfold maxLen; omega) A4.out hO
            rw [decide_eq_true rfl] at C5
            refine C5.mono ?_
            rintro e w5 ⟨rfl, hF⟩
            have F5 := Lib.hid (F4.out.trans hF (by simp))
            clear C5 hF
            have hq : (((lenS L : Nat) : Int) + 8 * (len0 : Int) == (lenS L : Nat) + (len0 : Int) * 8) = true := by rw [beq_iff_eq]; omega
            go_wp2_with fail
            go_ret
            exact ⟨rfl, F5.out.nil_below⟩
          · have hj1 : joinS L = ⟨#[]⟩ := by unfold joinS; rw [if_neg hg]
            have hj2 : joinE L = 3 := by unfold joinE; rw [if_neg hg]
            rw [hj1, hj2] at C2
            clear hj1 hj2
            have hd3 : decide ((4096 : Int) < m) = false := by rw [decide_eq_false_iff_not]; omega
            go_wp2_with fail
            refine C2.mono ?_
            rintro e w2 ⟨rfl, hF⟩
            have F2 := Lib.hid (F1.out.trans hF (by simp))
            clear C2 hF
            go_wp2_with fail
            go_ret
            exact ⟨rfl, F2.out.nil_below⟩
end Go.Proofs.Ytghahdddjpofdaa

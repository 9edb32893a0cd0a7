/- The document's answers at fixed inputs. -/
import Derived.Test.YtghahdddjpofdaaLJoin

set_option linter.unusedVariables false
set_option linter.unusedSimpArgs false
namespace Go.Proofs.Ytghahdddjpofdaa
open Go.RowKit
def abF : List UInt8 := [1, 0, 2, 158, 131, 72, 109, 97, 98, 1]
def cF : List UInt8 := [1, 0, 1, 6, 185, 223, 111, 99, 1]
theorem abF_eq : frameL [97, 98] = abF := by kernel_rfl
theorem cF_eq : frameL [99] = cF := by kernel_rfl
theorem sum9_eq : sumL [49, 50, 51, 52, 53, 54, 55, 56, 57] = 3421780262 := by kernel_rfl
theorem scan_ab (t : List UInt8) (h1 : oneB (abF ++ t) = true) (h2 : recL (abF ++ t) = [97, 98]) : scanL (abF ++ t) = [97, 98] :: scanL t := by
  rw [scanL_yes h1, h2]
  rfl
theorem scanA : scanL (abF ++ cF ++ [0, 1]) = [[97, 98], [99]] := by
  rw [List.append_assoc, scan_ab _ (by kernel_rfl) (by kernel_rfl), scanL_yes (s := cF ++ [0, 1]) (by kernel_rfl)]
  rw [show recL (cF ++ [0, 1]) = [99] by kernel_rfl, scanL_no (by kernel_rfl)]
theorem scanB : scanL (abF ++ cF.take 8 ++ [0]) = [[97, 98]] := by
  rw [List.append_assoc, scan_ab _ (by kernel_rfl) (by kernel_rfl), scanL_no (by kernel_rfl)]
theorem good_ab : allGood [[97, 98], [99]] := by
  intro r hr
  simp only [List.mem_cons, List.not_mem_nil, or_false] at hr
  rcases hr with rfl | rfl <;> exact ⟨by decide, by decide⟩
theorem strs_lit {w : World} {g : Nat} {L : List (List UInt8)} {n : Nat} (h : Row w g (L.map str) 9) (hn : L.length = n) : StrsAt w (some ⟨g, 0, none⟩) n L :=
  ⟨hn, fun _ => ⟨g, 0, rfl, h.lt, fun j r hj => by rw [h.cell, Nat.zero_add, List.getElem?_map, hj]; rfl⟩⟩
theorem eq_lit {s : ByteArray} {l : List UInt8} (h : s.data.toList = l) : s = ⟨l.toArray⟩ := by rw [← h]
set_option maxHeartbeats 1000000 in
theorem awake_any (w : World) : Calls Try.prog 7 #[] w fun e w' => e = .returned (.bool true) ∧ Fr [] w w' := by
  have f1 : frameS ⟨#[97, 98]⟩ = ⟨abF.toArray⟩ := by unfold frameS; rw [if_pos ⟨by decide, by decide⟩, ← abF_eq]; try rfl
  have f2 : frameE ⟨#[97, 98]⟩ = 0 := by unfold frameE; rw [if_pos ⟨by decide, by decide⟩]
  have f3 : frameS ⟨#[]⟩ = ⟨#[]⟩ := by unfold frameS; rw [if_neg (fun h => absurd h.1 (by decide))]
  have f4 : frameE ⟨#[]⟩ = 3 := by unfold frameE; rw [if_neg (fun h => absurd h.1 (by decide))]
  have j1 : joinS [[97, 98], [99]] = ⟨(abF ++ cF).toArray⟩ := by unfold joinS; rw [if_pos good_ab, joinL_cons, joinL_cons, abF_eq, cF_eq]; try rfl
  have j2 : joinE [[97, 98], [99]] = 0 := by unfold joinE; rw [if_pos good_ab]
  have C1 := frame_any ⟨#[97, 98]⟩ w
  rw [f1, f2] at C1
  have z1 : (⟨abF.toArray⟩ : ByteArray).size = 10 := by kernel_rfl
  have x1 : (⟨abF.toArray⟩ : ByteArray).extract 0 3 = ⟨#[1, 0, 2]⟩ := by kernel_rfl
  have x2 : (⟨abF.toArray⟩ : ByteArray).extract 7 10 = ⟨#[97, 98, 1]⟩ := by kernel_rfl
  clear f1 f2
  generalize (⟨abF.toArray⟩ : ByteArray) = FA at z1 x1 x2 C1
  go_enter Try.func7, Try.ntmps7
  go_wp2_with fail
  refine C1.mono ?_
  rintro e w1 ⟨rfl, hF1⟩
  have C2 := frame_any ⟨#[]⟩ w1
  rw [f3, f4] at C2
  have F1 := Lib.hid hF1
  have J1 := Lib.hid j1
  have J2 := Lib.hid j2
  clear C1 f3 f4 hF1 j1 j2
  go_wp2_with fail
  refine C2.mono ?_
  rintro e w2 ⟨rfl, hF2⟩
  have F2 := Lib.hid (F1.out.trans hF2 (by simp))
  clear C2 hF2
  go_wp2_with fail
  have C3 := join_any (some ⟨w2.heap.size, 0, none⟩) 2 2 [[97, 98], [99]] _ (strs_lit (Row.new w2 (([[97, 98], [99]] : List (List UInt8)).map str) 9) rfl) (by decide)
  rw [J1.out, J2.out] at C3
  refine C3.mono ?_
  rintro e w3 ⟨rfl, hF3⟩
  have F3 := Lib.hid ((F2.out.alloc _).trans hF3 (by simp))
  clear C3 hF3 J1 J2
  have sz : (⟨(abF ++ cF).toArray⟩ : ByteArray).size = 19 := by kernel_rfl
  obtain ⟨se1, se2⟩ := nonempty_toList (⟨(abF ++ cF).toArray⟩ : ByteArray) (by rw [sz]; decide)
  have sa : scanL ((⟨(abF ++ cF).toArray⟩ : ByteArray) ++ ⟨#[0, 1]⟩).data.toList = [[97, 98], [99]] := by
    rw [show ((⟨(abF ++ cF).toArray⟩ : ByteArray) ++ ⟨#[0, 1]⟩).data.toList = abF ++ cF ++ [0, 1] by kernel_rfl]
    exact scanA
  have sb : scanL ((⟨(abF ++ cF).toArray⟩ : ByteArray).extract 0 18 ++ ⟨#[0]⟩).data.toList = [[97, 98]] := by
    rw [show ((⟨(abF ++ cF).toArray⟩ : ByteArray).extract 0 18 ++ ⟨#[0]⟩).data.toList = abF ++ cF.take 8 ++ [0] by kernel_rfl]
    exact scanB
  have sx : ((⟨(abF ++ cF).toArray⟩ : ByteArray) ++ ⟨#[0, 1]⟩).size ≤ 1000000 := by decide
  have sy : ((⟨(abF ++ cF).toArray⟩ : ByteArray).extract 0 18).size = 18 := by kernel_rfl
  have sy2 : ((⟨(abF ++ cF).toArray⟩ : ByteArray).extract 0 18 ++ ⟨#[0]⟩).size ≤ 1000000 := by decide
  generalize (⟨(abF ++ cF).toArray⟩ : ByteArray) = S at sz se1 se2 sa sb sx sy sy2 ⊢
  have C4 := scan_any (S ++ ⟨#[0, 1]⟩) w3 sx
  unfold ScanP at C4
  rw [sa, show lenA [[97, 98], [99]] = 19 from rfl] at C4
  have SB := Lib.hid sb
  clear sa sb
  go_wp2_with fail
  refine C4.mono ?_
  rintro e w4 ⟨v1, rfl, hO1, hF4⟩
  have F4 := Lib.hid (F3.out.trans hF4 (by simp))
  obtain ⟨a1, c1, rfl⟩ := own_slice hO1
  have O1 := Lib.hid (StrsAt.of_own hO1)
  clear C4 hO1 hF4
  have C5 := scan_any (S.extract 0 18 ++ ⟨#[0]⟩) w4 sy2
  unfold ScanP at C5
  rw [SB.out, show lenA [[97, 98]] = 10 from rfl] at C5
  go_wp2_with fail
  refine C5.mono ?_
  rintro e w5 ⟨v2, rfl, hO2, hF5⟩
  have F5 := Lib.hid (F4.out.trans hF5 (by simp))
  obtain ⟨a2, c2, rfl⟩ := own_slice hO2
  have O2 := Lib.hid (StrsAt.of_own hO2)
  have O3 := Lib.hid (O1.out.fr hF5)
  clear C5 hO2 hF5
  have C6 := sum_any ⟨#[49, 50, 51, 52, 53, 54, 55, 56, 57]⟩ w5 (by decide)
  rw [show sumL (⟨#[49, 50, 51, 52, 53, 54, 55, 56, 57]⟩ : ByteArray).data.toList = 3421780262 from sum9_eq] at C6
  go_wp2_with fail
  refine C6.mono ?_
  rintro e w6 ⟨rfl, hF6⟩
  have F6 := Lib.hid (F5.out.trans hF6 (by simp))
  have O4 := Lib.hid (O2.out.fr hF6)
  have O5 := Lib.hid (O3.out.fr hF6)
  clear C6 hF6
  go_wp2_with fail
  have hrow1 := Row.new w6 (([[97, 98], [99]] : List (List UInt8)).map str) 9
  have C7 := same_any a1 (some ⟨w6.heap.size, 0, none⟩) 2 2 c1 2 [[97, 98], [99]] [[97, 98], [99]] _ (by unfold maxLen; omega) (by unfold maxLen; omega) (O5.out.fr ((Fr.refl _ w6).alloc (.cells (([[97, 98], [99]] : List (List UInt8)).map str).toArray 9))) (strs_lit hrow1 rfl)
  rw [show decide (([[97, 98], [99]] : List (List UInt8)) = [[97, 98], [99]]) = true by simp] at C7
  refine C7.mono ?_
  rintro e w7 ⟨rfl, hF7⟩
  have F7 := Lib.hid ((F6.out.alloc _).trans hF7 (by simp))
  have O6 := Lib.hid ((O4.out.fr ((Fr.refl _ w6).alloc _)).fr hF7)
  clear C7 hF7 hrow1
  go_wp2_with fail
  have hrow2 := Row.new w7 (([[97, 98]] : List (List UInt8)).map str) 9
  have C8 := same_any a2 (some ⟨w7.heap.size, 0, none⟩) 1 1 c2 1 [[97, 98]] [[97, 98]] _ (by unfold maxLen; omega) (by unfold maxLen; omega) (O6.out.fr ((Fr.refl _ w7).alloc (.cells (([[97, 98]] : List (List UInt8)).map str).toArray 9))) (strs_lit hrow2 rfl)
  rw [show decide (([[97, 98]] : List (List UInt8)) = [[97, 98]]) = true by simp] at C8
  refine C8.mono ?_
  rintro e w8 ⟨rfl, hF8⟩
  have F8 := Lib.hid ((F7.out.alloc _).trans hF8 (by simp))
  clear C8 hF8 hrow2
  go_wp2_with fail
  go_ret
  exact ⟨rfl, F8.out⟩
end Go.Proofs.Ytghahdddjpofdaa

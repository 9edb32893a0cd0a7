/- The document's answers at fixed inputs: the walk. (Printed by genawake.py.) -/
import Derived.Test.YtclkahggfdnpgaaMk15
import Derived.Test.YtclkahggfdnpgaaMk19
set_option linter.unusedVariables false
set_option linter.unusedSimpArgs false
namespace Go.Proofs.Ytclkahggfdnpgaa
open Go.RowKit
theorem own_ints {w : World} {base n c : Nat} {a : Option Addr} {L : List Nat} (h : w.ownsRow base 3 1 (.slice a n c) L.length (L.map intV)) (h0 : 0 < L.length) :
    n = L.length ∧ ∃ g, a = some ⟨g, 0, none⟩ ∧ base ≤ g ∧ g < w.heap.size ∧ ∀ j, j < L.length → w.cell? ⟨g, j, none⟩ = some (.int .i64 ((L.getD j default : Nat) : Int)) := by
  rcases h.2 with ⟨hv, h1⟩ | ⟨g, cap, cur, hv, hb, hg, hn, hcm, hcs, ht⟩
  · omega
  · cases hv
    refine ⟨rfl, g, rfl, hb, (Array.getElem?_eq_some_iff.1 hg).1, fun j hj => ?_⟩
    rw [cell_of_row w g _ _ _ _ hg]
    have h2 : (L.map intV)[j]? = some (intV (L.getD j default)) := by rw [List.getElem?_map, getD_at L j hj]; rfl
    rw [← ht, List.getElem?_take, if_pos (by omega)] at h2
    rw [← Array.getElem?_toList]
    exact h2
theorem next2 {N : List MarkD} (hN : N.length = 2) {w : World} {e : Ending} {w' : World} (h : NextP N 0 w e w') : ∃ a c, e = .returned (.tuple #[.slice a 2 c, .int .i64 0]) ∧ MarksAt w' a 2 N ∧ Fr [] w w' := by
  obtain ⟨a, c, h1, h2, h3⟩ := next_ok0 h
  rw [hN] at h1 h2
  exact ⟨a, c, h1, h2, h3⟩
set_option maxRecDepth 100000 in
set_option maxHeartbeats 4000000 in
theorem awake_any (w : World) : Calls Try.prog 14 #[] w fun e w' => e = .returned (.bool true) ∧ Fr [] w w' := by
  go_enter Try.func14, Try.ntmps14
  go_wp2_with fail
  have r1 := ((Row.new w awC 104).alloc (.cells awD.toArray 57)).alloc (.cells #[.slice (some ⟨w.heap.size, 0, none⟩) 2 2, .slice (some ⟨w.heap.size + 1, 0, none⟩) 3 3] 25)
  have r2 := (Row.new (w.alloc (.cells awC.toArray 104)) awD 57).alloc (.cells #[.slice (some ⟨w.heap.size, 0, none⟩) 2 2, .slice (some ⟨w.heap.size + 1, 0, none⟩) 3 3] 25)
  have r3 := Row.new ((w.alloc (.cells awC.toArray 104)).alloc (.cells awD.toArray 57)) [.slice (some ⟨w.heap.size, 0, none⟩) 2 2, .slice (some ⟨w.heap.size + 1, 0, none⟩) 3 3] 25
  have e1 : (w.alloc (.cells awC.toArray 104)).heap.size = w.heap.size + 1 := by simp
  have e2 : ((w.alloc (.cells awC.toArray 104)).alloc (.cells awD.toArray 57)).heap.size = w.heap.size + 1 + 1 := by simp
  rw [e1] at r2
  rw [e2] at r3
  have f0 := (((Fr.refl [] w).alloc (.cells awC.toArray 104)).alloc (.cells awD.toArray 57)).alloc (.cells #[.slice (some ⟨w.heap.size, 0, none⟩) 2 2, .slice (some ⟨w.heap.size + 1, 0, none⟩) 3 3] 25)
  have C1 := start_any (awF w.heap.size (w.heap.size + 1)) _ (aw_flat r1 r2)
  have FL := Lib.hid (aw_flat r1 r2)
  have RB := Lib.hid r3
  have F0 := Lib.hid f0
  rw [show (awF w.heap.size (w.heap.size + 1)).E = awE from rfl, aw_start] at C1
  change Calls Try.prog 27 _ _ (Marked aw0 2 _) at C1
  clear r1 r2 r3 e1 e2 f0
  refine C1.mono ?_
  rintro e w2 ⟨am, cm, rfl, hM, hF⟩
  have Ma2 := Lib.hid hM
  have F2 := Lib.hid hF
  have x2 : w2.cell? ⟨w.heap.size + 1 + 1, 0, none⟩ = some (.slice (some ⟨w.heap.size, 0, none⟩) 2 2) := (RB.out.fr hF (by simp)).cell 0
  have y2 : w2.cell? ⟨w.heap.size + 1 + 1, 1, none⟩ = some (.slice (some ⟨w.heap.size + 1, 0, none⟩) 3 3) := (RB.out.fr hF (by simp)).cell 1
  have FL2 := Lib.hid (FL.out.fr hF)
  clear hM hF C1
  have C3 := enab_any (awF w.heap.size (w.heap.size + 1)) am 2 cm aw0 1 w2 FL2.out Ma2.out (by omega)
  rw [aw_off] at C3
  go_wp2_with fail
  refine C3.mono ?_
  rintro e w3 ⟨rfl, hF⟩
  have Ma3 := Lib.hid (Ma2.out.fr hF)
  have FL3 := Lib.hid (FL2.out.fr hF)
  have F3 := Lib.hid (F2.out.trans hF (by simp))
  have x3 := cell_fr x2 hF
  have y3 := cell_fr y2 hF
  clear hF C3 x2 y2
  have C4 := do_any (awF w.heap.size (w.heap.size + 1)) am 2 cm aw0 1 w3 FL3.out Ma3.out (by omega)
  rw [aw_do0] at C4
  go_wp2_with fail
  refine C4.mono ?_
  intro e w4 hP
  obtain ⟨az, cz, rfl, _, hF⟩ := next_bad0 (by decide) hP
  clear hP
  have Ma4 := Lib.hid (Ma3.out.fr hF)
  have FL4 := Lib.hid (FL3.out.fr hF)
  have F4 := Lib.hid (F3.out.trans hF (by simp))
  have x4 := cell_fr x3 hF
  have y4 := cell_fr y3 hF
  clear hF C4 x3 y3
  have C5 := tick_any (awF w.heap.size (w.heap.size + 1)) am 2 cm aw0 w4 Ma4.out (by omega)
  rw [aw_tick0, aw_m1] at C5
  go_wp2_with fail
  refine C5.mono ?_
  intro e w5 hP
  obtain ⟨an, cn, rfl, hM, hF⟩ := next2 (by decide) hP
  clear hP
  have Ma5 := Lib.hid (Ma4.out.fr hF)
  have Mb5 := Lib.hid hM
  have FL5 := Lib.hid (FL4.out.fr hF)
  have F5 := Lib.hid (F4.out.trans hF (by simp))
  have x5 := cell_fr x4 hF
  have y5 := cell_fr y4 hF
  clear hF C5 x4 y4
  clear hM
  have C6 := enab_any (awF w.heap.size (w.heap.size + 1)) an 2 cn aw1 1 w5 FL5.out Mb5.out (by omega)
  rw [aw_on] at C6
  go_wp2_with fail
  refine C6.mono ?_
  rintro e w6 ⟨rfl, hF⟩
  have Ma6 := Lib.hid (Ma5.out.fr hF)
  have Mb6 := Lib.hid (Mb5.out.fr hF)
  have FL6 := Lib.hid (FL5.out.fr hF)
  have F6 := Lib.hid (F5.out.trans hF (by simp))
  have x6 := cell_fr x5 hF
  have y6 := cell_fr y5 hF
  clear hF C6 x5 y5
  have C7 := do_any (awF w.heap.size (w.heap.size + 1)) an 2 cn aw1 1 w6 FL6.out Mb6.out (by omega)
  rw [aw_do1, show (1 : Int).toNat = 1 from rfl, aw_m2] at C7
  go_wp2_with fail
  refine C7.mono ?_
  intro e w7 hP
  obtain ⟨ak, ck, rfl, hM, hF⟩ := next2 (by decide) hP
  clear hP
  have Ma7 := Lib.hid (Ma6.out.fr hF)
  have Mb7 := Lib.hid (Mb6.out.fr hF)
  have Mc7 := Lib.hid hM
  have FL7 := Lib.hid (FL6.out.fr hF)
  have F7 := Lib.hid (F6.out.trans hF (by simp))
  have x7 := cell_fr x6 hF
  have y7 := cell_fr y6 hF
  clear hF C7 x6 y6
  clear hM
  have C8 := tick_any (awF w.heap.size (w.heap.size + 1)) ak 2 ck aw2 w7 Mc7.out (by omega)
  rw [aw_tick2, aw_m3] at C8
  go_wp2_with fail
  refine C8.mono ?_
  intro e w8 hP
  obtain ⟨ao, co, rfl, hM, hF⟩ := next2 (by decide) hP
  clear hP
  have Ma8 := Lib.hid (Ma7.out.fr hF)
  have Mb8 := Lib.hid (Mb7.out.fr hF)
  have Mc8 := Lib.hid (Mc7.out.fr hF)
  have Md8 := Lib.hid hM
  have FL8 := Lib.hid (FL7.out.fr hF)
  have F8 := Lib.hid (F7.out.trans hF (by simp))
  have x8 := cell_fr x7 hF
  have y8 := cell_fr y7 hF
  clear hF C8 x7 y7
  clear hM
  have C9 := tick_any (awF w.heap.size (w.heap.size + 1)) ao 2 co aw3 w8 Md8.out (by omega)
  rw [aw_tick3] at C9
  go_wp2_with fail
  refine C9.mono ?_
  intro e w9 hP
  obtain ⟨az2, cz2, rfl, _, hF⟩ := next_bad0 (by decide) hP
  clear hP
  have Ma9 := Lib.hid (Ma8.out.fr hF)
  have Mb9 := Lib.hid (Mb8.out.fr hF)
  have Mc9 := Lib.hid (Mc8.out.fr hF)
  have Md9 := Lib.hid (Md8.out.fr hF)
  have FL9 := Lib.hid (FL8.out.fr hF)
  have F9 := Lib.hid (F8.out.trans hF (by simp))
  have x9 := cell_fr x8 hF
  have y9 := cell_fr y8 hF
  clear hF C9 x8 y8
  have C10 := all_any (awF w.heap.size (w.heap.size + 1)) ao 2 co aw3 w9 FL9.out Md9.out (by omega)
  go_wp2_with fail
  refine C10.mono ?_
  rintro e w10 ⟨v, rfl, hO, hF⟩
  rw [aw_all] at hO
  obtain ⟨ball, dall, rfl⟩ := own_slice hO
  have Ma10 := Lib.hid (Ma9.out.fr hF)
  have Mb10 := Lib.hid (Mb9.out.fr hF)
  have Mc10 := Lib.hid (Mc9.out.fr hF)
  have Md10 := Lib.hid (Md9.out.fr hF)
  have FL10 := Lib.hid (FL9.out.fr hF)
  have F10 := Lib.hid (F9.out.trans hF (by simp))
  have x10 := cell_fr x9 hF
  have y10 := cell_fr y9 hF
  clear hF C10 x9 y9
  have OA := Lib.hid hO
  clear hO
  obtain ⟨g0, o0, rfl, _, c0⟩ := Ma10.out.2.at_ (by decide)
  obtain ⟨g1, o1, rfl, _, c1⟩ := Mb10.out.2.at_ (by decide)
  obtain ⟨g2, o2, rfl, _, c2⟩ := Mc10.out.2.at_ (by decide)
  obtain ⟨g3, o3, rfl, _, c3⟩ := Md10.out.2.at_ (by decide)
  obtain ⟨_, ga, rfl, _, _, ca⟩ := own_ints OA.out (by decide)
  have z0 : ∀ j v, ([.bool true, .int .i64 0, .int .i64 (-1)] : List Value)[j]? = some v → w10.cell? ⟨g0, o0 + j, none⟩ = some v := fun j v hj => by simpa using c0 0 (by decide) j v hj
  have z00 : w10.cell? ⟨g0, o0, none⟩ = some (.bool true) := z0 0 _ rfl
  have z01 : w10.cell? ⟨g0, o0 + 1, none⟩ = some (.int .i64 0) := z0 1 _ rfl
  have z02 : w10.cell? ⟨g0, o0 + 2, none⟩ = some (.int .i64 (-1)) := z0 2 _ rfl
  have z03 : w10.cell? ⟨g0, o0 + 1 * 3 + 1, none⟩ = some (.int .i64 (-1)) := c0 1 (by decide) 1 _ rfl
  have z11 : w10.cell? ⟨g1, o1 + 0 * 3 + 1, none⟩ = some (.int .i64 1) := c1 0 (by decide) 1 _ rfl
  have z22 : w10.cell? ⟨g2, o2 + 0 * 3 + 2, none⟩ = some (.int .i64 1) := c2 0 (by decide) 2 _ rfl
  have z21 : w10.cell? ⟨g2, o2 + 1 * 3 + 1, none⟩ = some (.int .i64 0) := c2 1 (by decide) 1 _ rfl
  have z32 : w10.cell? ⟨g3, o3 + 0 * 3 + 2, none⟩ = some (.int .i64 0) := c3 0 (by decide) 2 _ rfl
  have za : w10.cell? ⟨ga, 0, none⟩ = some (.int .i64 0) := ca 0 (by decide)
  simp only [Nat.zero_mul, Nat.one_mul, Nat.add_zero, Nat.zero_add, Nat.add_assoc, Nat.reduceAdd] at z11 z22 z21 z32 z03
  clear z0 c0 c1 c2 c3 ca
  have C11 := slack_any (awF w.heap.size (w.heap.size + 1)) (some ⟨g3, o3, none⟩) 2 co aw3 w10 Md10.out (by omega)
  rw [show (awF w.heap.size (w.heap.size + 1)).en = 2 from rfl, aw_slack] at C11
  go_wp2_with fail
  refine C11.mono ?_
  rintro e w11 ⟨rfl, hF⟩
  have Ma11 := Lib.hid (Ma10.out.fr hF)
  have Mb11 := Lib.hid (Mb10.out.fr hF)
  have Mc11 := Lib.hid (Mc10.out.fr hF)
  have Md11 := Lib.hid (Md10.out.fr hF)
  have FL11 := Lib.hid (FL10.out.fr hF)
  have F11 := Lib.hid (F10.out.trans hF (by simp))
  have x11 := cell_fr x10 hF
  have y11 := cell_fr y10 hF
  clear hF C11 x10 y10
  have C12 := slack_any (awF w.heap.size (w.heap.size + 1)) none 0 0 [] w11 (marks_nil w11) (by omega)
  rw [show (awF w.heap.size (w.heap.size + 1)).en = 2 from rfl, aw_slack0] at C12
  go_wp2_with fail
  refine C12.mono ?_
  rintro e w12 ⟨rfl, hF⟩
  have Ma12 := Lib.hid (Ma11.out.fr hF)
  have Mb12 := Lib.hid (Mb11.out.fr hF)
  have Mc12 := Lib.hid (Mc11.out.fr hF)
  have Md12 := Lib.hid (Md11.out.fr hF)
  have FL12 := Lib.hid (FL11.out.fr hF)
  have F12 := Lib.hid (F11.out.trans hF (by simp))
  have x12 := cell_fr x11 hF
  have y12 := cell_fr y11 hF
  clear hF C12 x11 y11
  have C13 := acc_any (awF w.heap.size (w.heap.size + 1)) (some ⟨g1, o1, none⟩) 2 cn aw1 w12 Mb12.out (by omega)
  rw [show (awF w.heap.size (w.heap.size + 1)).en = 2 from rfl, aw_acc1] at C13
  go_wp2_with fail
  refine C13.mono ?_
  rintro e w13 ⟨rfl, hF⟩
  have Ma13 := Lib.hid (Ma12.out.fr hF)
  have Mb13 := Lib.hid (Mb12.out.fr hF)
  have Mc13 := Lib.hid (Mc12.out.fr hF)
  have Md13 := Lib.hid (Md12.out.fr hF)
  have FL13 := Lib.hid (FL12.out.fr hF)
  have F13 := Lib.hid (F12.out.trans hF (by simp))
  have x13 := cell_fr x12 hF
  have y13 := cell_fr y12 hF
  clear hF C13 x12 y12
  have C14 := acc_any (awF w.heap.size (w.heap.size + 1)) (some ⟨g3, o3, none⟩) 2 co aw3 w13 Md13.out (by omega)
  rw [show (awF w.heap.size (w.heap.size + 1)).en = 2 from rfl, aw_acc3] at C14
  go_wp2_with fail
  refine C14.mono ?_
  rintro e w14 ⟨rfl, hF⟩
  have Ma14 := Lib.hid (Ma13.out.fr hF)
  have Mb14 := Lib.hid (Mb13.out.fr hF)
  have Mc14 := Lib.hid (Mc13.out.fr hF)
  have Md14 := Lib.hid (Md13.out.fr hF)
  have FL14 := Lib.hid (FL13.out.fr hF)
  have F14 := Lib.hid (F13.out.trans hF (by simp))
  have x14 := cell_fr x13 hF
  have y14 := cell_fr y13 hF
  clear hF C14 x13 y13
  have C15 := fits_any (awF w.heap.size (w.heap.size + 1)) (some ⟨g0, o0, none⟩) 2 cm aw0 w14 Ma14.out (by omega)
  rw [show (awF w.heap.size (w.heap.size + 1)).en = 2 from rfl, aw_fit0] at C15
  go_wp2_with fail
  refine C15.mono ?_
  rintro e w15 ⟨rfl, hF⟩
  have Ma15 := Lib.hid (Ma14.out.fr hF)
  have Mb15 := Lib.hid (Mb14.out.fr hF)
  have Mc15 := Lib.hid (Mc14.out.fr hF)
  have Md15 := Lib.hid (Md14.out.fr hF)
  have FL15 := Lib.hid (FL14.out.fr hF)
  have F15 := Lib.hid (F14.out.trans hF (by simp))
  have x15 := cell_fr x14 hF
  have y15 := cell_fr y14 hF
  clear hF C15 x14 y14
  have C16 := fits_any (awF w.heap.size (w.heap.size + 1)) none 0 0 [] w15 (marks_nil w15) (by omega)
  rw [show (awF w.heap.size (w.heap.size + 1)).en = 2 from rfl, aw_fitn] at C16
  go_wp2_with fail
  refine C16.mono ?_
  rintro e w16 ⟨rfl, hF⟩
  have Ma16 := Lib.hid (Ma15.out.fr hF)
  have Mb16 := Lib.hid (Mb15.out.fr hF)
  have Mc16 := Lib.hid (Mc15.out.fr hF)
  have Md16 := Lib.hid (Md15.out.fr hF)
  have FL16 := Lib.hid (FL15.out.fr hF)
  have F16 := Lib.hid (F15.out.trans hF (by simp))
  have x16 := cell_fr x15 hF
  have y16 := cell_fr y15 hF
  clear hF C16 x15 y15
  have C17 := start_any (awF w.heap.size (w.heap.size + 1)) w16 FL16.out
  rw [show (awF w.heap.size (w.heap.size + 1)).E = awE from rfl, aw_start, show (awF w.heap.size (w.heap.size + 1)).en = 2 from rfl] at C17
  go_wp2_with fail
  refine C17.mono ?_
  rintro e w17 ⟨ae, ce, rfl, hM, hF⟩
  have Ma17 := Lib.hid (Ma16.out.fr hF)
  have Mb17 := Lib.hid (Mb16.out.fr hF)
  have Mc17 := Lib.hid (Mc16.out.fr hF)
  have Md17 := Lib.hid (Md16.out.fr hF)
  have Me17 := Lib.hid hM
  have FL17 := Lib.hid (FL16.out.fr hF)
  have F17 := Lib.hid (F16.out.trans hF (by simp))
  have x17 := cell_fr x16 hF
  have y17 := cell_fr y16 hF
  clear hF C17 x16 y16
  clear hM
  have C18 := marksame_any (some ⟨g0, o0, none⟩) ae 2 2 cm ce aw0 aw0 w17 (by omega) (by omega) Ma17.out Me17.out
  rw [decide_eq_true rfl] at C18
  go_wp2_with fail
  refine C18.mono ?_
  rintro e w18 ⟨rfl, hF⟩
  have Ma18 := Lib.hid (Ma17.out.fr hF)
  have Mb18 := Lib.hid (Mb17.out.fr hF)
  have Mc18 := Lib.hid (Mc17.out.fr hF)
  have Md18 := Lib.hid (Md17.out.fr hF)
  have Me18 := Lib.hid (Me17.out.fr hF)
  have FL18 := Lib.hid (FL17.out.fr hF)
  have F18 := Lib.hid (F17.out.trans hF (by simp))
  have x18 := cell_fr x17 hF
  have y18 := cell_fr y17 hF
  clear hF C18 x17 y17
  have C19 := marksame_any (some ⟨g0, o0, none⟩) (some ⟨g1, o1, none⟩) 2 2 cm cn aw0 aw1 w18 (by omega) (by omega) Ma18.out Mb18.out
  rw [show decide (aw0 = aw1) = false by decide] at C19
  go_wp2_with fail
  refine C19.mono ?_
  rintro e w19 ⟨rfl, hF⟩
  have Ma19 := Lib.hid (Ma18.out.fr hF)
  have Mb19 := Lib.hid (Mb18.out.fr hF)
  have Mc19 := Lib.hid (Mc18.out.fr hF)
  have Md19 := Lib.hid (Md18.out.fr hF)
  have Me19 := Lib.hid (Me18.out.fr hF)
  have FL19 := Lib.hid (FL18.out.fr hF)
  have F19 := Lib.hid (F18.out.trans hF (by simp))
  have x19 := cell_fr x18 hF
  have y19 := cell_fr y18 hF
  clear hF C19 x18 y18
  go_wp2_with fail
  go_ret
  exact ⟨rfl, F0.out.trans F19.out (by simp)⟩
end Go.Proofs.Ytclkahggfdnpgaa

/- The marking behind any event, and behind a tick, or why there is none, is as the document says; the one ahead stays: the law. (Printed by genmdoes.py.) -/
import Derived.Test.YtclkahggfdnpgaaMTellsLaw
import Derived.Test.YtclkahggfdnpgaaRk8
set_option linter.unusedVariables false
set_option linter.unusedSimpArgs false
namespace Go.Proofs.Ytclkahggfdnpgaa
open Go.RowKit
/-- A marking, or why there is none, in letters. -/
def NextL (L : List MarkD) (l : Nat) (E : Int) (w : World) (e : Ending) (w' : World) : Prop := ∃ a c, e = .returned (.tuple #[.slice a l c, .int .i64 E]) ∧ MarksAt w' a l L ∧ Fr [] w w'
theorem next_l {N : List MarkD} {E : Int} {n : Nat} (hl : N.length = n) (hn : n ≤ 100000) : ∃ (L : List MarkD) (l : Nat), l ≤ 100000 ∧ ∀ w e w', NextP N E w e w' → NextL L l E w e w' :=
  ⟨if E = 0 then N else [], if E = 0 then N.length else 0, by split <;> omega, fun w e w' h => h⟩
theorem do_pair (f : FlatD) (ao : Option Addr) (co : Nat) (a : Option Addr) (n c : Nat) (M : List MarkD) (i : Int) (hl : M.length = n) (hn : n ≤ 100000) :
    ∃ (L : List MarkD) (l : Nat) (E : Int), l ≤ 100000 ∧ (∀ w, FlatAt w f → MarksAt w a n M → Calls Try.prog 29 #[.agg #[.slice f.ea f.en f.ec, .slice f.ta f.tn f.tc], .slice a n c, .int .i64 i] w (NextL L l E w)) ∧
      ∀ w, FlatAt w ⟨f.ea, f.en, f.ec, ao, f.tn, co, f.E, f.T⟩ → MarksAt w a n M → Calls Try.prog 30 #[.agg #[.slice f.ea f.en f.ec, .slice ao f.tn co], .slice a n c, .int .i64 i] w (NextL L l E w) := by
  obtain ⟨L, l, h1, h2⟩ := next_l (N := doM f M i.toNat) (E := doE f M i) ((doM_length f M i.toNat).trans hl) hn
  refine ⟨L, l, _, h1, fun w hf hM => (do_any f a n c M i w hf hM hn).mono fun e w' h => h2 w e w' h, fun w hf hM => ?_⟩
  exact (rdo_any ⟨f.ea, f.en, f.ec, ao, f.tn, co, f.E, f.T⟩ a n c M i w hf hM hn).mono fun e w' h => h2 w e w' h
theorem tick_pair (f : FlatD) (ao : Option Addr) (co : Nat) (a : Option Addr) (n c : Nat) (M : List MarkD) (hl : M.length = n) (hn : n ≤ 100000) (hen : f.en ≤ 100000) :
    ∃ (L : List MarkD) (l : Nat) (E : Int), l ≤ 100000 ∧ (∀ w, MarksAt w a n M → Calls Try.prog 31 #[.agg #[.slice f.ea f.en f.ec, .slice f.ta f.tn f.tc], .slice a n c] w (NextL L l E w)) ∧
      ∀ w, MarksAt w a n M → Calls Try.prog 32 #[.agg #[.slice f.ea f.en f.ec, .slice ao f.tn co], .slice a n c] w (NextL L l E w) := by
  obtain ⟨L, l, h1, h2⟩ := next_l (N := M.map tickM) (E := tickE f M) ((List.length_map _).trans hl) hn
  refine ⟨L, l, _, h1, fun w hM => (tick_any f a n c M w hM hn).mono fun e w' h => h2 w e w' h, fun w hM => ?_⟩
  exact (rtick_any ⟨f.ea, f.en, f.ec, ao, f.tn, co, f.E, f.T⟩ a n c M w hM hn hen).mono fun e w' h => h2 w e w' h
set_option maxRecDepth 100000 in
set_option maxHeartbeats 4000000 in
theorem markDoes_walk (f : FlatD) (a1 : Option Addr) (len1 cap1 : Nat) (M : List MarkD) (a2 : Int) (W : World) (hf : FlatIn W f) (hM2 : MarksIn W a1 len1 cap1 M) (hw2 : (Lit.int .i64 a2).wf = true) :
    Calls Try.prog 4 #[f.val, .slice a1 len1 cap1, .int .i64 a2] W fun e w' => e = .returned (.bool true) ∧ Below W.heap.size W w' := by
  have hM := hM2.marks
  have HNIL := Lib.hid hM2.nil
  clear hM2
  have hfe := Lib.hid hf.evs.1
  have hr := (Fr.refl [] W).alloc (.cells #[.slice f.ea f.en f.ec, .slice f.ta f.tn f.tc] 25)
  have HR := Lib.hid hr
  have rb := Row.new W [.slice f.ea f.en f.ec, .slice f.ta f.tn f.tc] 25
  have RB := Lib.hid rb
  have HF := Lib.hid hf
  have HM := Lib.hid hM
  clear hf hM hr rb hw2
  unfold FlatD.val
  go_enter Try.func4, Try.ntmps4
  go_wp2_with fail
  refine (awake_any _).mono ?_
  rintro e w1 ⟨rfl, hF1⟩
  have F1 := Lib.hid (HR.out.trans hF1 (by simp))
  have x0 : w1.cell? ⟨W.heap.size, 0, none⟩ = some (.slice f.ea f.en f.ec) := (RB.out.fr hF1 (by simp)).cell 0
  have x1 : w1.cell? ⟨W.heap.size, 1, none⟩ = some (.slice f.ta f.tn f.tc) := (RB.out.fr hF1 (by simp)).cell 1
  clear hF1
  have C2 := large_any f w1
  unfold FlatD.val at C2
  go_wp2_with fail
  refine C2.mono ?_
  rintro e w2 ⟨rfl, hF2⟩
  have F2 := Lib.hid (F1.out.trans hF2 (by simp))
  have y0 := cell_fr x0 hF2
  have y1 := cell_fr x1 hF2
  clear hF2 C2 x0 x1
  by_cases hl : largeB f = true
  · rw [hl]
    go_wp2_with fail
    go_ret
    exact ⟨rfl, F2.out.nil_below⟩
  have hl : largeB f = false := by simpa using hl
  have FA := Lib.hid (large_flat HF.out hl)
  have hen := FA.out.few
  rw [hl]
  clear hl
  by_cases h60 : len1 > 60
  · have d60 : decide ((60 : Int) < (len1 : Int)) = true := decide_eq_true (by omega)
    clear h60
    go_wp2_with fail
    go_ret
    exact ⟨rfl, F2.out.nil_below⟩
  have d60 : decide ((60 : Int) < (len1 : Int)) = false := decide_eq_false (by omega)
  have hn : len1 ≤ 100000 := by omega
  have C3 := own_any f w2 (FA.out.fr F2.out)
  unfold FlatD.val at C3
  clear h60
  go_wp2_with fail
  refine C3.mono ?_
  rintro e w3 ⟨ao, co, rfl, hT3, hF3⟩
  have F3 := Lib.hid (F2.out.trans hF3 (by simp))
  have T3 := Lib.hid hT3
  have x0 := cell_fr y0 hF3
  have x1 := cell_fr y1 hF3
  clear hF3 C3 y0 y1 hT3
  go_wp2_with ((with_reducible refine wpList_var_agg rfl rfl 31 (.tmp 7) (.tmp 27) rfl rfl 2 zero31 [.slice f.ea f.en f.ec, .slice ao f.tn co] rfl ?_ ?_ ?_ ?_); (intro u hu; simp at hu; rcases hu with rfl | rfl <;> rfl); exact rfl; exact rfl)
  intro w4 rb4 hs4 q4
  have F4 := Lib.hid (F3.out.trans q4 (by simp))
  have T4 := Lib.hid (T3.out.fr q4)
  have y0 := cell_fr x0 q4
  have y1 := cell_fr x1 q4
  have y2 : w4.cell? ⟨w3.heap.size, 0, none⟩ = some (.slice f.ea f.en f.ec) := rb4.cell 0
  have y3 : w4.cell? ⟨w3.heap.size, 1, none⟩ = some (.slice ao f.tn co) := rb4.cell 1
  clear q4 rb4 hs4 x0 x1
  have HW := Lib.hid (own_empty w4 52 3)
  have FE := Lib.hid (((Fr.refl [] w4).alloc (.cells #[] 52)) : Fr [] w4 (w4.alloc (.cells #[] 52)))
  have ME := Lib.hid ((HM.out.fr F4.out).fr FE.out)
  go_wp2_with (at_builtin; refine wpList_append_marks rfl _ _ rfl _ rfl HW.out FE.out a1 len1 cap1 M rfl ME.out HNIL.out hn ?_)
  intro bw dw w5 hMW hF5
  have F5 := Lib.hid (F4.out.trans hF5 (by simp))
  have MW5 := Lib.hid hMW
  have FB5 := Lib.hid (⟨(FA.out.fr F5.out).evs, T4.out.fr hF5, FA.out.few, FA.out.few2⟩ : FlatAt w5 ⟨f.ea, f.en, f.ec, ao, f.tn, co, f.E, f.T⟩)
  have FA5 := Lib.hid (FA.out.fr F5.out)
  have MM5 := Lib.hid (HM.out.fr F5.out)
  have x0 := cell_fr y0 hF5
  have x1 := cell_fr y1 hF5
  have x2 := cell_fr y2 hF5
  have x3 := cell_fr y3 hF5
  clear hF5 hMW y0 y1 y2 y3
  obtain ⟨LD, lD, ED, hlD, cd1, cd2⟩ := do_pair f ao co a1 len1 cap1 M a2 HM.out.1 hn
  obtain ⟨LT, lT, ET, hlT, ct1, ct2⟩ := tick_pair f ao co a1 len1 cap1 M HM.out.1 hn hen
  have CD1 := Lib.hid cd1
  have CD2 := Lib.hid cd2
  have CT1 := Lib.hid ct1
  have CT2 := Lib.hid ct2
  clear cd1 cd2 ct1 ct2
  have C6 := CD1.out w5 FA5.out MM5.out
  go_wp2_with fail
  refine C6.mono ?_
  rintro e w6 ⟨ba, da, rfl, hM, hF⟩
  have MW6 := Lib.hid (MW5.out.fr hF)
  have FB6 := Lib.hid (FB5.out.fr hF)
  have FA6 := Lib.hid (FA5.out.fr hF)
  have MM6 := Lib.hid (MM5.out.fr hF)
  have MA6 := Lib.hid hM
  have F6 := Lib.hid (F5.out.trans hF (by simp))
  have y0 := cell_fr x0 hF
  have y1 := cell_fr x1 hF
  have y2 := cell_fr x2 hF
  have y3 := cell_fr x3 hF
  clear hF C6 x0 x1 x2 x3
  clear hM
  have C7 := CD2.out w6 FB6.out MM6.out
  go_wp2_with fail
  refine C7.mono ?_
  rintro e w7 ⟨bb, db, rfl, hM, hF⟩
  have MW7 := Lib.hid (MW6.out.fr hF)
  have FB7 := Lib.hid (FB6.out.fr hF)
  have FA7 := Lib.hid (FA6.out.fr hF)
  have MM7 := Lib.hid (MM6.out.fr hF)
  have MA7 := Lib.hid (MA6.out.fr hF)
  have MB7 := Lib.hid hM
  have F7 := Lib.hid (F6.out.trans hF (by simp))
  have x0 := cell_fr y0 hF
  have x1 := cell_fr y1 hF
  have x2 := cell_fr y2 hF
  have x3 := cell_fr y3 hF
  clear hF C7 y0 y1 y2 y3
  clear hM
  have C8 := CT1.out w7 MM7.out
  go_wp2_with fail
  refine C8.mono ?_
  rintro e w8 ⟨bc, dc, rfl, hM, hF⟩
  have MW8 := Lib.hid (MW7.out.fr hF)
  have FB8 := Lib.hid (FB7.out.fr hF)
  have FA8 := Lib.hid (FA7.out.fr hF)
  have MM8 := Lib.hid (MM7.out.fr hF)
  have MA8 := Lib.hid (MA7.out.fr hF)
  have MB8 := Lib.hid (MB7.out.fr hF)
  have MC8 := Lib.hid hM
  have F8 := Lib.hid (F7.out.trans hF (by simp))
  have y0 := cell_fr x0 hF
  have y1 := cell_fr x1 hF
  have y2 := cell_fr x2 hF
  have y3 := cell_fr x3 hF
  clear hF C8 x0 x1 x2 x3
  clear hM
  have C9 := CT2.out w8 MM8.out
  go_wp2_with fail
  refine C9.mono ?_
  rintro e w9 ⟨bd, dd, rfl, hM, hF⟩
  have MW9 := Lib.hid (MW8.out.fr hF)
  have FB9 := Lib.hid (FB8.out.fr hF)
  have FA9 := Lib.hid (FA8.out.fr hF)
  have MM9 := Lib.hid (MM8.out.fr hF)
  have MA9 := Lib.hid (MA8.out.fr hF)
  have MB9 := Lib.hid (MB8.out.fr hF)
  have MC9 := Lib.hid (MC8.out.fr hF)
  have MD9 := Lib.hid hM
  have F9 := Lib.hid (F8.out.trans hF (by simp))
  have x0 := cell_fr y0 hF
  have x1 := cell_fr y1 hF
  have x2 := cell_fr y2 hF
  have x3 := cell_fr y3 hF
  clear hF C9 y0 y1 y2 y3
  clear hM
  have C10 := rsame_any ba bb lD lD da db LD LD w9 hlD hlD MA9.out MB9.out
  rw [decide_eq_true rfl] at C10
  have ed : (ED == ED) = true := by simp
  have et : (ET == ET) = true := by simp
  go_wp2_with fail
  refine C10.mono ?_
  rintro e w10 ⟨rfl, hF⟩
  have C11 := rsame_any bc bd lT lT dc dd LT LT w10 hlT hlT (MC9.out.fr hF) (MD9.out.fr hF)
  rw [decide_eq_true rfl] at C11
  have F10 := Lib.hid (F9.out.trans hF (by simp))
  have MM10 := Lib.hid (MM9.out.fr hF)
  have MW10 := Lib.hid (MW9.out.fr hF)
  clear hF C10
  go_wp2_with fail
  refine C11.mono ?_
  rintro e w11 ⟨rfl, hF⟩
  have C12 := rsame_any a1 bw len1 len1 cap1 dw M M w11 hn hn (MM10.out.fr hF) (MW10.out.fr hF)
  rw [decide_eq_true rfl] at C12
  have F11 := Lib.hid (F10.out.trans hF (by simp))
  clear hF C11
  go_wp2_with fail
  refine C12.mono ?_
  rintro e w12 ⟨rfl, hF⟩
  have F12 := Lib.hid (F11.out.trans hF (by simp))
  clear hF C12
  go_wp2_with fail
  go_ret
  exact ⟨rfl, F12.out.nil_below⟩
end Go.Proofs.Ytclkahggfdnpgaa

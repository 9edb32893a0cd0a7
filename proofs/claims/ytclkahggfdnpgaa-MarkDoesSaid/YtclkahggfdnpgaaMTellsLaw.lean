/- Of any graph and any marking: fits, enabled, slack, accepting and the first marking are as the document says: the law. (Printed by gentells.py.) -/
import Derived.Test.YtclkahggfdnpgaaTicksLaw
import Derived.Test.YtclkahggfdnpgaaRk5
import Derived.Deep.RegionHeldLaw
set_option linter.unusedVariables false
set_option linter.unusedSimpArgs false
namespace Go.Proofs.Ytclkahggfdnpgaa
open Go.RowKit
theorem allL_more (f : FlatD) (M : List MarkD) (i : Nat) : ∀ d : Nat, ∃ R, allL f M (i + d) = allL f M i ++ R := by
  intro d
  induction d with
  | zero => exact ⟨[], by simp⟩
  | succ d ih =>
    obtain ⟨R, hR⟩ := ih
    cases h : enabB f M (i + d : Nat)
    · exact ⟨R, by rw [← Nat.add_assoc, allL_no f M (i + d) h, hR]⟩
    · exact ⟨R ++ [i + d], by rw [← Nat.add_assoc, allL_yes f M (i + d) h, hR, List.append_assoc]⟩
theorem zero31 : (Try.prog.info? 31).map (fun i => (i.size, i.zero.map (·.cells.size))) = some (2, some 2) := by kernel_rfl
theorem allL_at (f : FlatD) (M : List MarkD) (i N : Nat) (h : i < N) (he : enabB f M i = true) : (allL f M i).length < (allL f M N).length ∧ (allL f M N).getD (allL f M i).length default = i := by
  obtain ⟨R, hR⟩ := allL_more f M (i + 1) (N - (i + 1))
  rw [show i + 1 + (N - (i + 1)) = N by omega, allL_yes f M i he, List.append_assoc] at hR
  rw [hR]
  refine ⟨by simp, ?_⟩
  rw [List.getD_eq_getElem?_getD, List.getElem?_append_right (Nat.le_refl _), Nat.sub_self]
  rfl
set_option maxRecDepth 100000 in
set_option maxHeartbeats 4000000 in
theorem markTells_walk (f : FlatD) (a1 : Option Addr) (len1 cap1 : Nat) (M : List MarkD) (a2 : Int) (W : World) (hf : FlatIn W f) (hM : MarksAt W a1 len1 M) (hw2 : (Lit.int .i64 a2).wf = true) :
    Calls Try.prog 3 #[f.val, .slice a1 len1 cap1, .int .i64 a2] W fun e w' => e = .returned (.bool true) ∧ Below W.heap.size W w' := by
  have hfe := Lib.hid hf.evs.1
  have hr := (Fr.refl [] W).alloc (.cells #[.slice f.ea f.en f.ec, .slice f.ta f.tn f.tc] 25)
  have HR := Lib.hid hr
  have rb := Row.new W [.slice f.ea f.en f.ec, .slice f.ta f.tn f.tc] 25
  have RB := Lib.hid rb
  have HF := Lib.hid hf
  have HM := Lib.hid hM
  clear hf hM hr rb hw2
  unfold FlatD.val
  go_enter Try.func3, Try.ntmps3
  go_wp2_with fail
  refine (awake_any _).mono ?_
  rintro e w1 ⟨rfl, hF1⟩
  have F1 := Lib.hid (HR.out.trans hF1 (by simp))
  have x0 : w1.cell? ⟨W.heap.size, 0, none⟩ = some (.slice f.ea f.en f.ec) := (RB.out.fr hF1 (by simp)).cell 0
  have x1 : w1.cell? ⟨W.heap.size, 1, none⟩ = some (.slice f.ta f.tn f.tc) := (RB.out.fr hF1 (by simp)).cell 1
  clear hF1
  have C2 := large_any f w1
  unfold FlatD.val at C2
  go_wp2_with fail
  refine C2.mono ?_
  rintro e w2 ⟨rfl, hF2⟩
  have F2 := Lib.hid (F1.out.trans hF2 (by simp))
  have y0 := cell_fr x0 hF2
  have y1 := cell_fr x1 hF2
  clear hF2 C2 x0 x1
  by_cases hl : largeB f = true
  · rw [hl]
    go_wp2_with fail
    go_ret
    exact ⟨rfl, F2.out.nil_below⟩
  have hl : largeB f = false := by simpa using hl
  have FA := Lib.hid (large_flat HF.out hl)
  have hen := FA.out.few
  rw [hl]
  clear hl
  by_cases h60 : len1 > 60
  · have d60 : decide ((60 : Int) < (len1 : Int)) = true := decide_eq_true (by omega)
    clear h60
    go_wp2_with fail
    go_ret
    exact ⟨rfl, F2.out.nil_below⟩
  have d60 : decide ((60 : Int) < (len1 : Int)) = false := decide_eq_false (by omega)
  have hn : len1 ≤ 100000 := by omega
  have C3 := own_any f w2 (FA.out.fr F2.out)
  unfold FlatD.val at C3
  clear h60
  go_wp2_with fail
  refine C3.mono ?_
  rintro e w3 ⟨ao, co, rfl, hT3, hF3⟩
  have F3 := Lib.hid (F2.out.trans hF3 (by simp))
  have T3 := Lib.hid hT3
  have x0 := cell_fr y0 hF3
  have x1 := cell_fr y1 hF3
  clear hF3 C3 y0 y1 hT3
  go_wp2_with ((with_reducible refine wpList_var_agg rfl rfl 31 (.tmp 7) (.tmp 21) rfl rfl 2 zero31 [.slice f.ea f.en f.ec, .slice ao f.tn co] rfl ?_ ?_ ?_ ?_); (intro u hu; simp at hu; rcases hu with rfl | rfl <;> rfl); exact rfl; exact rfl)
  intro w4 rb4 hs4 q4
  have F4 := Lib.hid (F3.out.trans q4 (by simp))
  have T4 := Lib.hid (T3.out.fr q4)
  have y0 := cell_fr x0 q4
  have y1 := cell_fr x1 q4
  have y2 : w4.cell? ⟨w3.heap.size, 0, none⟩ = some (.slice f.ea f.en f.ec) := rb4.cell 0
  have y3 : w4.cell? ⟨w3.heap.size, 1, none⟩ = some (.slice ao f.tn co) := rb4.cell 1
  have C5 := all_any f a1 len1 cap1 M _ (FA.out.fr F4.out) (HM.out.fr F4.out) hn
  unfold FlatD.val at C5
  clear q4 rb4 hs4 x0 x1
  go_wp2_with fail
  refine C5.mono ?_
  rintro e w5 ⟨v, rfl, hO5, hF5⟩
  obtain ⟨bl, dl, rfl⟩ := own_slice hO5
  have O5 := Lib.hid hO5
  have F5 := Lib.hid (F4.out.trans hF5 (by simp))
  have T5 := Lib.hid (T4.out.fr hF5)
  have x0 := cell_fr y0 hF5
  have x1 := cell_fr y1 hF5
  have x2 := cell_fr y2 hF5
  have x3 := cell_fr y3 hF5
  clear hF5 hO5 C5 y0 y1 y2 y3
  go_wp2_with fail
  go_loopg [9, 27] len1 (fun k n i wr => ∃ (j : Nat), k = len1 - j ∧ j ≤ len1 ∧ i = .int .i64 j ∧ n = .int .i64 (allL f M j).length ∧ Fr [] w5 wr)
  case atStart => exact ⟨0, rfl, by omega, rfl, rfl, Fr.refl _ _⟩
  case round =>
    obtain ⟨j, rfl, hj, rfl, rfl, hF⟩ := hrel
    have F6 := Lib.hid hF
    have y0 := cell_fr x0 hF
    have y1 := cell_fr x1 hF
    have y2 := cell_fr x2 hF
    have y3 := cell_fr x3 hF
    have hFl : FlatAt wr ⟨f.ea, f.en, f.ec, ao, f.tn, co, f.E, f.T⟩ := ⟨((FA.out.fr F5.out).fr hF).evs, (T5.out.fr hF), FA.out.few, FA.out.few2⟩
    have FB := Lib.hid hFl
    clear hF hFl
    have hle := allL_le f M j
    by_cases hjn : j < len1
    · have hdn : decide (j < len1) = true := decide_eq_true hjn
      have C7 := renab_any ⟨f.ea, f.en, f.ec, ao, f.tn, co, f.E, f.T⟩ a1 len1 cap1 M j wr FB.out ((HM.out.fr F5.out).fr F6.out) hn
      change Calls Try.prog 18 #[.agg #[.slice f.ea f.en f.ec, .slice ao f.tn co], .slice a1 len1 cap1, .int .i64 j] wr (fun e w' => e = .returned (.bool (enabB f M j)) ∧ Fr [] wr w') at C7
      go_wp2_with fail
      refine C7.mono ?_
      rintro e w7 ⟨rfl, hF7⟩
      have F7 := Lib.hid (F6.out.trans hF7 (by simp))
      clear hF7 C7
      cases he : enabB f M j
      · have HN := Lib.hid (allL_no f M j he)
        clear he
        go_wp2_with fail
        go_roundg (len1 - (j + 1))
        case measure => omega
        case rel => exact ⟨j + 1, rfl, by omega, rfl, by rw [HN.out], F7.out⟩
      · have HY := Lib.hid (show (allL f M (j + 1)).length = (allL f M j).length + 1 by rw [allL_yes f M j he]; simp)
        have hat := allL_at f M j len1 hjn he
        obtain ⟨_, gl, hbl, _, _, hcl⟩ := own_ints O5.out (by omega)
        have z := hcl _ hat.1
        rw [hat.2] at z
        have z' := cell_fr z F7.out
        subst hbl
        have hlt := hat.1
        have dge : decide ((allL f M len1).length ≤ (allL f M j).length) = false := decide_eq_false (by omega)
        have hne : ((j : Int) != (j : Int)) = false := by simp
        generalize hA : (allL f M j).length = A at z' dge hlt HY ⊢
        have HA := Lib.hid hA
        have hA100 : A ≤ 100000 := by omega
        have hB1 : (A : Int) < ((allL f M len1).length : Int) := by omega
        clear he hat hcl z hA
        go_wp2_with fail
        go_roundg (len1 - (j + 1))
        case measure => omega
        case rel => exact ⟨j + 1, rfl, by omega, rfl, by rw [HY.out]; rfl, F7.out⟩
    · have hdn : decide (j < len1) = false := decide_eq_false hjn
      obtain rfl : len1 = j := by omega
      obtain ⟨wo, rfl⟩ : ∃ wo, wo = wr := ⟨_, rfl⟩
      have FO := Lib.hid (F5.out.trans F6.out (by simp))
      have FC := Lib.hid (FA.out.fr FO.out)
      have MO := Lib.hid (HM.out.fr FO.out)
      have dw := (Fr.refl [] wo).drew
      have DW := Lib.hid dw
      clear dw
      have KP : ∀ w', Fr [] wo.drew w' → (w'.cell? ⟨W.heap.size, 0, none⟩ = some (.slice f.ea f.en f.ec) ∧ w'.cell? ⟨W.heap.size, 1, none⟩ = some (.slice f.ta f.tn f.tc) ∧ w'.cell? ⟨w3.heap.size, 0, none⟩ = some (.slice f.ea f.en f.ec) ∧ w'.cell? ⟨w3.heap.size, 1, none⟩ = some (.slice ao f.tn co)) := fun w' hF => ⟨cell_fr y0 (DW.out.trans hF (by simp)), cell_fr y1 (DW.out.trans hF (by simp)), cell_fr y2 (DW.out.trans hF (by simp)), cell_fr y3 (DW.out.trans hF (by simp))⟩
      have KP := Lib.hid KP
      have FF := Lib.hid fun (w' : World) (hF : Fr [] wo.drew w') => FC.out.fr (DW.out.trans hF (by simp))
      have GG := Lib.hid fun (w' : World) (hF : Fr [] wo.drew w') => FB.out.fr (DW.out.trans hF (by simp))
      have MM := Lib.hid fun (w' : World) (hF : Fr [] wo.drew w') => MO.out.fr (DW.out.trans hF (by simp))
      have D19 : ∀ w', Fr [] wo.drew w' → Calls Try.prog 19 #[.agg #[.slice f.ea f.en f.ec, .slice f.ta f.tn f.tc], .slice a1 len1 cap1, .int .i64 a2] w' (fun e w'' => e = .returned (.bool (enabB f M a2)) ∧ Fr [] wo.drew w'') := fun w' hF => (enab_any f a1 len1 cap1 M a2 w' (FF.out w' hF) (MM.out w' hF) hn).mono fun e w'' h => ⟨h.1, hF.trans h.2 (by simp)⟩
      have D19 := Lib.hid D19
      have D18 : ∀ w', Fr [] wo.drew w' → Calls Try.prog 18 #[.agg #[.slice f.ea f.en f.ec, .slice ao f.tn co], .slice a1 len1 cap1, .int .i64 a2] w' (fun e w'' => e = .returned (.bool (enabB f M a2)) ∧ Fr [] wo.drew w'') := fun w' hF => (renab_any ⟨f.ea, f.en, f.ec, ao, f.tn, co, f.E, f.T⟩ a1 len1 cap1 M a2 w' (GG.out w' hF) (MM.out w' hF) hn).mono fun e w'' h => ⟨h.1, hF.trans h.2 (by simp)⟩
      have D18 := Lib.hid D18
      have D20 : ∀ w', Fr [] wo.drew w' → Calls Try.prog 20 #[.agg #[.slice f.ea f.en f.ec, .slice f.ta f.tn f.tc], .slice a1 len1 cap1] w' (fun e w'' => e = .returned (.bool (fitsB f.en M)) ∧ Fr [] wo.drew w'') := fun w' hF => (fits_any f a1 len1 cap1 M w' (MM.out w' hF) hn).mono fun e w'' h => ⟨h.1, hF.trans h.2 (by simp)⟩
      have D20 := Lib.hid D20
      have D21 : ∀ w', Fr [] wo.drew w' → Calls Try.prog 21 #[.agg #[.slice f.ea f.en f.ec, .slice ao f.tn co], .slice a1 len1 cap1] w' (fun e w'' => e = .returned (.bool (fitsB f.en M)) ∧ Fr [] wo.drew w'') := fun w' hF => (rfits_any ⟨f.ea, f.en, f.ec, ao, f.tn, co, f.E, f.T⟩ a1 len1 cap1 M w' (MM.out w' hF) hn hen).mono fun e w'' h => ⟨h.1, hF.trans h.2 (by simp)⟩
      have D21 := Lib.hid D21
      have D22 : ∀ w', Fr [] wo.drew w' → Calls Try.prog 22 #[.agg #[.slice f.ea f.en f.ec, .slice f.ta f.tn f.tc], .slice a1 len1 cap1] w' (fun e w'' => e = .returned (.int .i64 (slackI f.en M)) ∧ Fr [] wo.drew w'') := fun w' hF => (slack_any f a1 len1 cap1 M w' (MM.out w' hF) hn).mono fun e w'' h => ⟨h.1, hF.trans h.2 (by simp)⟩
      have D22 := Lib.hid D22
      have D23 : ∀ w', Fr [] wo.drew w' → Calls Try.prog 23 #[.agg #[.slice f.ea f.en f.ec, .slice ao f.tn co], .slice a1 len1 cap1] w' (fun e w'' => e = .returned (.int .i64 (slackI f.en M)) ∧ Fr [] wo.drew w'') := fun w' hF => (rslack_any ⟨f.ea, f.en, f.ec, ao, f.tn, co, f.E, f.T⟩ a1 len1 cap1 M w' (MM.out w' hF) hn hen).mono fun e w'' h => ⟨h.1, hF.trans h.2 (by simp)⟩
      have D23 := Lib.hid D23
      have D24 : ∀ w', Fr [] wo.drew w' → Calls Try.prog 24 #[.agg #[.slice f.ea f.en f.ec, .slice f.ta f.tn f.tc], .slice a1 len1 cap1] w' (fun e w'' => e = .returned (.bool (accB f.en M)) ∧ Fr [] wo.drew w'') := fun w' hF => (acc_any f a1 len1 cap1 M w' (MM.out w' hF) hn).mono fun e w'' h => ⟨h.1, hF.trans h.2 (by simp)⟩
      have D24 := Lib.hid D24
      have D25 : ∀ w', Fr [] wo.drew w' → Calls Try.prog 25 #[.agg #[.slice f.ea f.en f.ec, .slice ao f.tn co], .slice a1 len1 cap1] w' (fun e w'' => e = .returned (.bool (accB f.en M)) ∧ Fr [] wo.drew w'') := fun w' hF => (racc_any ⟨f.ea, f.en, f.ec, ao, f.tn, co, f.E, f.T⟩ a1 len1 cap1 M w' (MM.out w' hF) hn hen).mono fun e w'' h => ⟨h.1, hF.trans h.2 (by simp)⟩
      have D25 := Lib.hid D25
      have D27 : ∀ w', Fr [] wo.drew w' → Calls Try.prog 27 #[.agg #[.slice f.ea f.en f.ec, .slice f.ta f.tn f.tc]] w' (fun e w'' => ∃ a c, e = .returned (.slice a f.en c) ∧ MarksAt w'' a f.en (f.E.map startM) ∧ Fr [] wo.drew w'') := fun w' hF => (start_any f w' (FF.out w' hF)).mono fun e w'' h => by
        obtain ⟨a, c, h1, h2, h3⟩ := h
        exact ⟨a, c, h1, h2, hF.trans h3 (by simp)⟩
      have D27 := Lib.hid D27
      have D28 : ∀ w', Fr [] wo.drew w' → Calls Try.prog 28 #[.agg #[.slice f.ea f.en f.ec, .slice ao f.tn co]] w' (fun e w'' => ∃ a c, e = .returned (.slice a f.en c) ∧ MarksAt w'' a f.en (f.E.map startM) ∧ Fr [] w' w'' ∧ Fr [] wo.drew w'') := fun w' hF => (rstart_any ⟨f.ea, f.en, f.ec, ao, f.tn, co, f.E, f.T⟩ w' (GG.out w' hF)).mono fun e w'' h => by
        obtain ⟨a, c, h1, h2, h3⟩ := h
        exact ⟨a, c, h1, h2, h3, hF.trans h3 (by simp)⟩
      have D28 := Lib.hid D28
      have hself : ((((allL f M len1).length : Nat) : Int) == (((allL f M len1).length : Nat) : Int)) = true := by simp
      generalize (allL f M len1).length = NL at hself ⊢
      clear hle x0 x1 x2 x3
      generalize enabB f M a2 = eb at D19 D18
      generalize fitsB f.en M = fb at D20 D21
      generalize slackI f.en M = sb at D22 D23
      generalize accB f.en M = ab at D24 D25
      go_wp2_with fail
      refine wp_region_held_drew (S := (fun w' => w'.cell? ⟨W.heap.size, 0, none⟩ = some (.slice f.ea f.en f.ec) ∧ w'.cell? ⟨W.heap.size, 1, none⟩ = some (.slice f.ta f.tn f.tc) ∧ w'.cell? ⟨w3.heap.size, 0, none⟩ = some (.slice f.ea f.en f.ec) ∧ w'.cell? ⟨w3.heap.size, 1, none⟩ = some (.slice ao f.tn co))) (by kernel_rfl) (KP.out _ (Fr.refl _ _)) (fun hHeld => ?_)
      refine wpAnyH_take (i := 0) (v := ?_) rfl (by kernel_rfl) (by kernel_rfl) (by kernel_rfl) (fun _ _ _ h => h) (Or.inl ⟨rfl, ?_⟩) hHeld ?_
      rotate_left
      · (intro w hSw; (try dsimp only at hSw); go_simp; try (with_reducible rfl))
      simp only [List.getElem_toArray, List.getElem_cons_succ, List.getElem_cons_zero, Act.put, List.setIfInBounds_toArray, List.set_cons_zero, List.set_cons_succ]
      refine wpAnyH_take (i := 1) (v := ?_) rfl (by kernel_rfl) (by kernel_rfl) (by kernel_rfl) (fun _ _ _ h => h) (Or.inl ⟨rfl, ?_⟩) hHeld ?_
      rotate_left
      · (intro w hSw; (try dsimp only at hSw); go_simp; try (with_reducible rfl))
      simp only [List.getElem_toArray, List.getElem_cons_succ, List.getElem_cons_zero, Act.put, List.setIfInBounds_toArray, List.set_cons_zero, List.set_cons_succ]
      refine wpAnyH_take (i := 2) (v := ?_) rfl (by kernel_rfl) (by kernel_rfl) (by kernel_rfl) (fun _ _ _ h => h) (Or.inl ⟨rfl, ?_⟩) hHeld ?_
      rotate_left
      · (intro w hSw; (try dsimp only at hSw); go_simp; try (with_reducible rfl))
      simp only [List.getElem_toArray, List.getElem_cons_succ, List.getElem_cons_zero, Act.put, List.setIfInBounds_toArray, List.set_cons_zero, List.set_cons_succ]
      refine wpAnyH_take (i := 3) (v := ?_) rfl (by kernel_rfl) (by kernel_rfl) (by kernel_rfl) (fun _ _ _ h => h) (Or.inl ⟨rfl, ?_⟩) hHeld ?_
      rotate_left
      · (intro w hSw; (try dsimp only at hSw); go_simp; try (with_reducible rfl))
      simp only [List.getElem_toArray, List.getElem_cons_succ, List.getElem_cons_zero, Act.put, List.setIfInBounds_toArray, List.set_cons_zero, List.set_cons_succ]
      refine wpAnyH_take (i := 4) (v := ?_) rfl (by kernel_rfl) (by kernel_rfl) (by kernel_rfl) (fun _ _ _ h => h) (Or.inl ⟨rfl, ?_⟩) hHeld ?_
      rotate_left
      · (intro w hSw; (try dsimp only at hSw); go_simp; try (with_reducible rfl))
      simp only [List.getElem_toArray, List.getElem_cons_succ, List.getElem_cons_zero, Act.put, List.setIfInBounds_toArray, List.set_cons_zero, List.set_cons_succ]
      refine wpAnyH_take (i := 5) (v := ?_) rfl (by kernel_rfl) (by kernel_rfl) (by kernel_rfl) (fun _ _ _ h => h) (Or.inl ⟨rfl, ?_⟩) hHeld ?_
      rotate_left
      · (intro w hSw; (try dsimp only at hSw); go_simp; try (with_reducible rfl))
      simp only [List.getElem_toArray, List.getElem_cons_succ, List.getElem_cons_zero, Act.put, List.setIfInBounds_toArray, List.set_cons_zero, List.set_cons_succ]
      refine wpAnyH_take (i := 6) (v := ?_) rfl (by kernel_rfl) (by kernel_rfl) (by kernel_rfl) (fun _ _ _ h => h) (Or.inl ⟨rfl, ?_⟩) hHeld ?_
      rotate_left
      · (intro w hSw; (try dsimp only at hSw); go_simp; try (with_reducible rfl))
      simp only [List.getElem_toArray, List.getElem_cons_succ, List.getElem_cons_zero, Act.put, List.setIfInBounds_toArray, List.set_cons_zero, List.set_cons_succ]
      refine wpAnyH_take (i := 7) (v := ?_) rfl (by kernel_rfl) (by kernel_rfl) (by kernel_rfl) (fun _ _ _ h => h) (Or.inl ⟨rfl, ?_⟩) hHeld ?_
      rotate_left
      · (intro w hSw; (try dsimp only at hSw); go_simp; try (with_reducible rfl))
      simp only [List.getElem_toArray, List.getElem_cons_succ, List.getElem_cons_zero, Act.put, List.setIfInBounds_toArray, List.set_cons_zero, List.set_cons_succ]
      refine wpAnyH_take (i := 9) (v := ?_) rfl (by kernel_rfl) (by kernel_rfl) (by kernel_rfl) (fun _ _ _ h => h) (Or.inl ⟨rfl, ?_⟩) hHeld ?_
      rotate_left
      · (intro w hSw; (try dsimp only at hSw); go_simp; try (with_reducible rfl))
      simp only [List.getElem_toArray, List.getElem_cons_succ, List.getElem_cons_zero, Act.put, List.setIfInBounds_toArray, List.set_cons_zero, List.set_cons_succ]
      refine wpAnyH_take (i := 10) (v := ?_) rfl (by kernel_rfl) (by kernel_rfl) (by kernel_rfl) (fun _ _ _ h => h) (Or.inl ⟨rfl, ?_⟩) hHeld ?_
      rotate_left
      · (intro w hSw; (try dsimp only at hSw); go_simp; try (with_reducible rfl))
      simp only [List.getElem_toArray, List.getElem_cons_succ, List.getElem_cons_zero, Act.put, List.setIfInBounds_toArray, List.set_cons_zero, List.set_cons_succ]
      refine wpAnyH_take (i := 11) (v := ?_) rfl (by kernel_rfl) (by kernel_rfl) (by kernel_rfl) (fun _ _ _ h => h) (Or.inl ⟨rfl, ?_⟩) hHeld ?_
      rotate_left
      · (intro w hSw; (try dsimp only at hSw); go_simp; try (with_reducible rfl))
      simp only [List.getElem_toArray, List.getElem_cons_succ, List.getElem_cons_zero, Act.put, List.setIfInBounds_toArray, List.set_cons_zero, List.set_cons_succ]
      refine wpAnyH_ready (rs := [8]) (by kernel_rfl) (by simp) ?_
      refine AllReadyH.cons rfl (fun K hK => ?_) AllReadyH.nil
      simp only [List.getElem_toArray, List.getElem_cons_succ, List.getElem_cons_zero]
      go_simp
      go_wp2_with (go_at_call 19; refine (D19.out _ (Fr.refl _ _)).mono ?_; rintro e v8 ⟨rfl, hF8⟩)
      refine hK.out _ _ (by first | (exact KP.out _ hF8) | go_keep) (fun hHeld => ?_)
      clear hK K
      refine wpAnyH_ready (rs := [12]) (by kernel_rfl) (by simp) ?_
      refine AllReadyH.cons rfl (fun K hK => ?_) AllReadyH.nil
      simp only [List.getElem_toArray, List.getElem_cons_succ, List.getElem_cons_zero]
      go_simp
      go_wp2_with (go_at_call 18; refine (D18.out _ hF8).mono ?_; rintro e v12 ⟨rfl, hF12⟩)
      refine hK.out _ _ (by first | (exact KP.out _ hF12) | go_keep) (fun hHeld => ?_)
      clear hK K
      refine wpAnyH_take (i := 13) (v := ?_) rfl (by kernel_rfl) (by kernel_rfl) (by kernel_rfl) (fun _ _ _ h => h) (Or.inl ⟨rfl, ?_⟩) hHeld ?_
      rotate_left
      · (intro w hSw; (try dsimp only at hSw); go_simp; try (with_reducible rfl))
      simp only [List.getElem_toArray, List.getElem_cons_succ, List.getElem_cons_zero, Act.put, List.setIfInBounds_toArray, List.set_cons_zero, List.set_cons_succ]
      refine wpAnyH_take (i := 14) (v := ?_) rfl (by kernel_rfl) (by kernel_rfl) (by kernel_rfl) (fun _ _ _ h => h) (Or.inl ⟨rfl, ?_⟩) hHeld ?_
      rotate_left
      · (intro w hSw; (try dsimp only at hSw); go_simp; try (with_reducible rfl))
      simp only [List.getElem_toArray, List.getElem_cons_succ, List.getElem_cons_zero, Act.put, List.setIfInBounds_toArray, List.set_cons_zero, List.set_cons_succ]
      refine wpAnyH_take (i := 15) (v := ?_) rfl (by kernel_rfl) (by kernel_rfl) (by kernel_rfl) (fun _ _ _ h => h) (Or.inl ⟨rfl, ?_⟩) hHeld ?_
      rotate_left
      · (intro w hSw; (try dsimp only at hSw); go_simp; try (with_reducible rfl))
      simp only [List.getElem_toArray, List.getElem_cons_succ, List.getElem_cons_zero, Act.put, List.setIfInBounds_toArray, List.set_cons_zero, List.set_cons_succ]
      refine wpAnyH_take (i := 16) (v := ?_) rfl (by kernel_rfl) (by kernel_rfl) (by kernel_rfl) (fun _ _ _ h => h) (Or.inl ⟨rfl, ?_⟩) hHeld ?_
      rotate_left
      · (intro w hSw; (try dsimp only at hSw); go_simp; try (with_reducible rfl))
      simp only [List.getElem_toArray, List.getElem_cons_succ, List.getElem_cons_zero, Act.put, List.setIfInBounds_toArray, List.set_cons_zero, List.set_cons_succ]
      refine wpAnyH_take (i := 17) (v := ?_) rfl (by kernel_rfl) (by kernel_rfl) (by kernel_rfl) (fun _ _ _ h => h) (Or.inl ⟨rfl, ?_⟩) hHeld ?_
      rotate_left
      · (intro w hSw; (try dsimp only at hSw); go_simp; try (with_reducible rfl))
      simp only [List.getElem_toArray, List.getElem_cons_succ, List.getElem_cons_zero, Act.put, List.setIfInBounds_toArray, List.set_cons_zero, List.set_cons_succ]
      refine wpAnyH_take (i := 19) (v := ?_) rfl (by kernel_rfl) (by kernel_rfl) (by kernel_rfl) (fun _ _ _ h => h) (Or.inl ⟨rfl, ?_⟩) hHeld ?_
      rotate_left
      · (intro w hSw; (try dsimp only at hSw); go_simp; try (with_reducible rfl))
      simp only [List.getElem_toArray, List.getElem_cons_succ, List.getElem_cons_zero, Act.put, List.setIfInBounds_toArray, List.set_cons_zero, List.set_cons_succ]
      refine wpAnyH_take (i := 20) (v := ?_) rfl (by kernel_rfl) (by kernel_rfl) (by kernel_rfl) (fun _ _ _ h => h) (Or.inl ⟨rfl, ?_⟩) hHeld ?_
      rotate_left
      · (intro w hSw; (try dsimp only at hSw); go_simp; try (with_reducible rfl))
      simp only [List.getElem_toArray, List.getElem_cons_succ, List.getElem_cons_zero, Act.put, List.setIfInBounds_toArray, List.set_cons_zero, List.set_cons_succ]
      refine wpAnyH_ready (rs := [18]) (by kernel_rfl) (by simp) ?_
      refine AllReadyH.cons rfl (fun K hK => ?_) AllReadyH.nil
      simp only [List.getElem_toArray, List.getElem_cons_succ, List.getElem_cons_zero]
      go_simp
      go_wp2_with (go_at_call 20; refine (D20.out _ hF12).mono ?_; rintro e v18 ⟨rfl, hF18⟩)
      refine hK.out _ _ (by first | (exact KP.out _ hF18) | go_keep) (fun hHeld => ?_)
      clear hK K
      refine wpAnyH_ready (rs := [21]) (by kernel_rfl) (by simp) ?_
      refine AllReadyH.cons rfl (fun K hK => ?_) AllReadyH.nil
      simp only [List.getElem_toArray, List.getElem_cons_succ, List.getElem_cons_zero]
      go_simp
      go_wp2_with (go_at_call 21; refine (D21.out _ hF18).mono ?_; rintro e v21 ⟨rfl, hF21⟩)
      refine hK.out _ _ (by first | (exact KP.out _ hF21) | go_keep) (fun hHeld => ?_)
      clear hK K
      refine wpAnyH_take (i := 22) (v := ?_) rfl (by kernel_rfl) (by kernel_rfl) (by kernel_rfl) (fun _ _ _ h => h) (Or.inl ⟨rfl, ?_⟩) hHeld ?_
      rotate_left
      · (intro w hSw; (try dsimp only at hSw); go_simp; try (with_reducible rfl))
      simp only [List.getElem_toArray, List.getElem_cons_succ, List.getElem_cons_zero, Act.put, List.setIfInBounds_toArray, List.set_cons_zero, List.set_cons_succ]
      refine wpAnyH_take (i := 23) (v := ?_) rfl (by kernel_rfl) (by kernel_rfl) (by kernel_rfl) (fun _ _ _ h => h) (Or.inl ⟨rfl, ?_⟩) hHeld ?_
      rotate_left
      · (intro w hSw; (try dsimp only at hSw); go_simp; try (with_reducible rfl))
      simp only [List.getElem_toArray, List.getElem_cons_succ, List.getElem_cons_zero, Act.put, List.setIfInBounds_toArray, List.set_cons_zero, List.set_cons_succ]
      refine wpAnyH_take (i := 24) (v := ?_) rfl (by kernel_rfl) (by kernel_rfl) (by kernel_rfl) (fun _ _ _ h => h) (Or.inl ⟨rfl, ?_⟩) hHeld ?_
      rotate_left
      · (intro w hSw; (try dsimp only at hSw); go_simp; try (with_reducible rfl))
      simp only [List.getElem_toArray, List.getElem_cons_succ, List.getElem_cons_zero, Act.put, List.setIfInBounds_toArray, List.set_cons_zero, List.set_cons_succ]
      refine wpAnyH_take (i := 25) (v := ?_) rfl (by kernel_rfl) (by kernel_rfl) (by kernel_rfl) (fun _ _ _ h => h) (Or.inl ⟨rfl, ?_⟩) hHeld ?_
      rotate_left
      · (intro w hSw; (try dsimp only at hSw); go_simp; try (with_reducible rfl))
      simp only [List.getElem_toArray, List.getElem_cons_succ, List.getElem_cons_zero, Act.put, List.setIfInBounds_toArray, List.set_cons_zero, List.set_cons_succ]
      refine wpAnyH_take (i := 26) (v := ?_) rfl (by kernel_rfl) (by kernel_rfl) (by kernel_rfl) (fun _ _ _ h => h) (Or.inl ⟨rfl, ?_⟩) hHeld ?_
      rotate_left
      · (intro w hSw; (try dsimp only at hSw); go_simp; try (with_reducible rfl))
      simp only [List.getElem_toArray, List.getElem_cons_succ, List.getElem_cons_zero, Act.put, List.setIfInBounds_toArray, List.set_cons_zero, List.set_cons_succ]
      refine wpAnyH_take (i := 28) (v := ?_) rfl (by kernel_rfl) (by kernel_rfl) (by kernel_rfl) (fun _ _ _ h => h) (Or.inl ⟨rfl, ?_⟩) hHeld ?_
      rotate_left
      · (intro w hSw; (try dsimp only at hSw); go_simp; try (with_reducible rfl))
      simp only [List.getElem_toArray, List.getElem_cons_succ, List.getElem_cons_zero, Act.put, List.setIfInBounds_toArray, List.set_cons_zero, List.set_cons_succ]
      refine wpAnyH_take (i := 29) (v := ?_) rfl (by kernel_rfl) (by kernel_rfl) (by kernel_rfl) (fun _ _ _ h => h) (Or.inl ⟨rfl, ?_⟩) hHeld ?_
      rotate_left
      · (intro w hSw; (try dsimp only at hSw); go_simp; try (with_reducible rfl))
      simp only [List.getElem_toArray, List.getElem_cons_succ, List.getElem_cons_zero, Act.put, List.setIfInBounds_toArray, List.set_cons_zero, List.set_cons_succ]
      refine wpAnyH_ready (rs := [27]) (by kernel_rfl) (by simp) ?_
      refine AllReadyH.cons rfl (fun K hK => ?_) AllReadyH.nil
      simp only [List.getElem_toArray, List.getElem_cons_succ, List.getElem_cons_zero]
      go_simp
      go_wp2_with (go_at_call 22; refine (D22.out _ hF21).mono ?_; rintro e v27 ⟨rfl, hF27⟩)
      refine hK.out _ _ (by first | (exact KP.out _ hF27) | go_keep) (fun hHeld => ?_)
      clear hK K
      refine wpAnyH_ready (rs := [30]) (by kernel_rfl) (by simp) ?_
      refine AllReadyH.cons rfl (fun K hK => ?_) AllReadyH.nil
      simp only [List.getElem_toArray, List.getElem_cons_succ, List.getElem_cons_zero]
      go_simp
      go_wp2_with (go_at_call 23; refine (D23.out _ hF27).mono ?_; rintro e v30 ⟨rfl, hF30⟩)
      refine hK.out _ _ (by first | (exact KP.out _ hF30) | go_keep) (fun hHeld => ?_)
      clear hK K
      refine wpAnyH_take (i := 31) (v := ?_) rfl (by kernel_rfl) (by kernel_rfl) (by kernel_rfl) (fun _ _ _ h => h) (Or.inl ⟨rfl, ?_⟩) hHeld ?_
      rotate_left
      · (intro w hSw; (try dsimp only at hSw); go_simp; try (with_reducible rfl))
      simp only [List.getElem_toArray, List.getElem_cons_succ, List.getElem_cons_zero, Act.put, List.setIfInBounds_toArray, List.set_cons_zero, List.set_cons_succ]
      refine wpAnyH_take (i := 32) (v := ?_) rfl (by kernel_rfl) (by kernel_rfl) (by kernel_rfl) (fun _ _ _ h => h) (Or.inl ⟨rfl, ?_⟩) hHeld ?_
      rotate_left
      · (intro w hSw; (try dsimp only at hSw); go_simp; try (with_reducible rfl))
      simp only [List.getElem_toArray, List.getElem_cons_succ, List.getElem_cons_zero, Act.put, List.setIfInBounds_toArray, List.set_cons_zero, List.set_cons_succ]
      refine wpAnyH_take (i := 33) (v := ?_) rfl (by kernel_rfl) (by kernel_rfl) (by kernel_rfl) (fun _ _ _ h => h) (Or.inl ⟨rfl, ?_⟩) hHeld ?_
      rotate_left
      · (intro w hSw; (try dsimp only at hSw); go_simp; try (with_reducible rfl))
      simp only [List.getElem_toArray, List.getElem_cons_succ, List.getElem_cons_zero, Act.put, List.setIfInBounds_toArray, List.set_cons_zero, List.set_cons_succ]
      refine wpAnyH_take (i := 34) (v := ?_) rfl (by kernel_rfl) (by kernel_rfl) (by kernel_rfl) (fun _ _ _ h => h) (Or.inl ⟨rfl, ?_⟩) hHeld ?_
      rotate_left
      · (intro w hSw; (try dsimp only at hSw); go_simp; try (with_reducible rfl))
      simp only [List.getElem_toArray, List.getElem_cons_succ, List.getElem_cons_zero, Act.put, List.setIfInBounds_toArray, List.set_cons_zero, List.set_cons_succ]
      refine wpAnyH_take (i := 35) (v := ?_) rfl (by kernel_rfl) (by kernel_rfl) (by kernel_rfl) (fun _ _ _ h => h) (Or.inl ⟨rfl, ?_⟩) hHeld ?_
      rotate_left
      · (intro w hSw; (try dsimp only at hSw); go_simp; try (with_reducible rfl))
      simp only [List.getElem_toArray, List.getElem_cons_succ, List.getElem_cons_zero, Act.put, List.setIfInBounds_toArray, List.set_cons_zero, List.set_cons_succ]
      refine wpAnyH_take (i := 37) (v := ?_) rfl (by kernel_rfl) (by kernel_rfl) (by kernel_rfl) (fun _ _ _ h => h) (Or.inl ⟨rfl, ?_⟩) hHeld ?_
      rotate_left
      · (intro w hSw; (try dsimp only at hSw); go_simp; try (with_reducible rfl))
      simp only [List.getElem_toArray, List.getElem_cons_succ, List.getElem_cons_zero, Act.put, List.setIfInBounds_toArray, List.set_cons_zero, List.set_cons_succ]
      refine wpAnyH_take (i := 38) (v := ?_) rfl (by kernel_rfl) (by kernel_rfl) (by kernel_rfl) (fun _ _ _ h => h) (Or.inl ⟨rfl, ?_⟩) hHeld ?_
      rotate_left
      · (intro w hSw; (try dsimp only at hSw); go_simp; try (with_reducible rfl))
      simp only [List.getElem_toArray, List.getElem_cons_succ, List.getElem_cons_zero, Act.put, List.setIfInBounds_toArray, List.set_cons_zero, List.set_cons_succ]
      refine wpAnyH_ready (rs := [36]) (by kernel_rfl) (by simp) ?_
      refine AllReadyH.cons rfl (fun K hK => ?_) AllReadyH.nil
      simp only [List.getElem_toArray, List.getElem_cons_succ, List.getElem_cons_zero]
      go_simp
      go_wp2_with (go_at_call 24; refine (D24.out _ hF30).mono ?_; rintro e v36 ⟨rfl, hF36⟩)
      refine hK.out _ _ (by first | (exact KP.out _ hF36) | go_keep) (fun hHeld => ?_)
      clear hK K
      refine wpAnyH_ready (rs := [39]) (by kernel_rfl) (by simp) ?_
      refine AllReadyH.cons rfl (fun K hK => ?_) AllReadyH.nil
      simp only [List.getElem_toArray, List.getElem_cons_succ, List.getElem_cons_zero]
      go_simp
      go_wp2_with (go_at_call 25; refine (D25.out _ hF36).mono ?_; rintro e v39 ⟨rfl, hF39⟩)
      refine hK.out _ _ (by first | (exact KP.out _ hF39) | go_keep) (fun hHeld => ?_)
      clear hK K
      refine wpAnyH_take (i := 40) (v := ?_) rfl (by kernel_rfl) (by kernel_rfl) (by kernel_rfl) (fun _ _ _ h => h) (Or.inl ⟨rfl, ?_⟩) hHeld ?_
      rotate_left
      · (intro w hSw; (try dsimp only at hSw); go_simp; try (with_reducible rfl))
      simp only [List.getElem_toArray, List.getElem_cons_succ, List.getElem_cons_zero, Act.put, List.setIfInBounds_toArray, List.set_cons_zero, List.set_cons_succ]
      refine wpAnyH_take (i := 41) (v := ?_) rfl (by kernel_rfl) (by kernel_rfl) (by kernel_rfl) (fun _ _ _ h => h) (Or.inl ⟨rfl, ?_⟩) hHeld ?_
      rotate_left
      · (intro w hSw; (try dsimp only at hSw); go_simp; try (with_reducible rfl))
      simp only [List.getElem_toArray, List.getElem_cons_succ, List.getElem_cons_zero, Act.put, List.setIfInBounds_toArray, List.set_cons_zero, List.set_cons_succ]
      refine wpAnyH_take (i := 42) (v := ?_) rfl (by kernel_rfl) (by kernel_rfl) (by kernel_rfl) (fun _ _ _ h => h) (Or.inl ⟨rfl, ?_⟩) hHeld ?_
      rotate_left
      · (intro w hSw; (try dsimp only at hSw); go_simp; try (with_reducible rfl))
      simp only [List.getElem_toArray, List.getElem_cons_succ, List.getElem_cons_zero, Act.put, List.setIfInBounds_toArray, List.set_cons_zero, List.set_cons_succ]
      refine wpAnyH_take (i := 43) (v := ?_) rfl (by kernel_rfl) (by kernel_rfl) (by kernel_rfl) (fun _ _ _ h => h) (Or.inl ⟨rfl, ?_⟩) hHeld ?_
      rotate_left
      · (intro w hSw; (try dsimp only at hSw); go_simp; try (with_reducible rfl))
      simp only [List.getElem_toArray, List.getElem_cons_succ, List.getElem_cons_zero, Act.put, List.setIfInBounds_toArray, List.set_cons_zero, List.set_cons_succ]
      refine wpAnyH_take (i := 45) (v := ?_) rfl (by kernel_rfl) (by kernel_rfl) (by kernel_rfl) (fun _ _ _ h => h) (Or.inl ⟨rfl, ?_⟩) hHeld ?_
      rotate_left
      · (intro w hSw; (try dsimp only at hSw); go_simp; try (with_reducible rfl))
      simp only [List.getElem_toArray, List.getElem_cons_succ, List.getElem_cons_zero, Act.put, List.setIfInBounds_toArray, List.set_cons_zero, List.set_cons_succ]
      refine wpAnyH_ready (rs := [44]) (by kernel_rfl) (by simp) ?_
      refine AllReadyH.cons rfl (fun K hK => ?_) AllReadyH.nil
      simp only [List.getElem_toArray, List.getElem_cons_succ, List.getElem_cons_zero]
      go_simp
      go_wp2_with (go_at_call 27; refine (D27.out _ hF39).mono ?_; rintro e v44 ⟨sa, sc, rfl, hM44, hF44⟩)
      refine hK.out _ _ (by first | (exact KP.out _ hF44) | go_keep) (fun hHeld => ?_)
      clear hK K
      refine wpAnyH_ready (rs := [46]) (by kernel_rfl) (by simp) ?_
      refine AllReadyH.cons rfl (fun K hK => ?_) AllReadyH.nil
      simp only [List.getElem_toArray, List.getElem_cons_succ, List.getElem_cons_zero]
      go_simp
      go_wp2_with (go_at_call 28; refine (D28.out _ hF44).mono ?_; rintro e v46 ⟨ar, cr, rfl, hM46, hG46, hF46⟩)
      refine hK.out _ _ (by first | (exact KP.out _ hF46) | go_keep) (fun hHeld => ?_)
      clear hK K
      refine wpAnyH_ready (rs := [47]) (by kernel_rfl) (by simp) ?_
      refine AllReadyH.cons rfl (fun K hK => ?_) AllReadyH.nil
      simp only [List.getElem_toArray, List.getElem_cons_succ, List.getElem_cons_zero]
      go_simp
      go_wp2_with (go_at_call 26; refine ((rsame_any sa ar f.en f.en sc cr (f.E.map startM) (f.E.map startM) v46 hen hen (hM44.fr hG46) hM46).mono fun e w'' h => (⟨h.1, hF46.trans h.2 (by simp)⟩ : e = .returned (.bool (decide (f.E.map startM = f.E.map startM))) ∧ Fr [] wo.drew w'')).mono ?_; rintro e v47 ⟨rfl, hF47⟩)
      refine hK.out _ _ (by first | (exact KP.out _ hF47) | go_keep) (fun hHeld => ?_)
      clear hK K
      refine wpAnyH_take (i := 48) (v := ?_) rfl (by kernel_rfl) (by kernel_rfl) (by kernel_rfl) (fun _ _ _ h => h) (Or.inl ⟨rfl, ?_⟩) hHeld ?_
      rotate_left
      · (intro w hSw; (try dsimp only at hSw); go_simp; try (with_reducible rfl))
      simp only [List.getElem_toArray, List.getElem_cons_succ, List.getElem_cons_zero, Act.put, List.setIfInBounds_toArray, List.set_cons_zero, List.set_cons_succ]
      refine wpAnyH_take (i := 49) (v := ?_) rfl (by kernel_rfl) (by kernel_rfl) (by kernel_rfl) (fun _ _ _ h => h) (Or.inl ⟨rfl, ?_⟩) hHeld ?_
      rotate_left
      · (intro w hSw; (try dsimp only at hSw); go_simp; try (with_reducible rfl))
      simp only [List.getElem_toArray, List.getElem_cons_succ, List.getElem_cons_zero, Act.put, List.setIfInBounds_toArray, List.set_cons_zero, List.set_cons_succ]
      refine wpAnyH_done (by kernel_rfl) ?_ _
      have F9 := Lib.hid (FO.out.trans (DW.out.trans hF47 (by simp)) (by simp))
      have hdd : decide (f.E.map startM = f.E.map startM) = true := decide_eq_true rfl
      go_wp2_with fail
      go_ret
      exact ⟨ret_bool hdd, F9.out.nil_below⟩
end Go.Proofs.Ytclkahggfdnpgaa

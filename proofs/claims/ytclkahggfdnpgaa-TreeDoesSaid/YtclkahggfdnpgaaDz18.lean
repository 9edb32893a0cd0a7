/- Parts of the proof: Rk5, Rk6, Rk7. (Merged by pack.py.) -/
import Derived.Test.YtclkahggfdnpgaaDz17
set_option linter.unusedVariables false
set_option linter.unusedSimpArgs false
namespace Go.Proofs.Ytclkahggfdnpgaa
open Go.RowKit
theorem enabB_nofit {f : FlatD} {M : List MarkD} {i : Int} (h : fitsB f.en M = false) : enabB f M i = false := by unfold enabB; rw [h]; rfl
theorem enabB_range {f : FlatD} {M : List MarkD} {i : Int} (h : i < 0 ∨ (M.length : Int) ≤ i) : enabB f M i = false := by
  unfold enabB
  rw [decide_eq_false (show ¬ (0 ≤ i ∧ i < (M.length : Int)) by omega), Bool.and_false]
  rfl
theorem enabB_out {f : FlatD} {M : List MarkD} {i : Int} (h : (M.getD i.toNat default).inn = false) : enabB f M i = false := by
  unfold enabB
  rw [h, Bool.and_false]
  rfl
theorem enabB_bar {f : FlatD} {M : List MarkD} {i : Int} (j : Nat) (hj : j < f.T.length) (h : (f.T.getD j default).bars f.en i M = true) : enabB f M i = false := by
  unfold enabB
  rw [any_at f.T (fun t => t.bars f.en i M) j hj h]
  simp
theorem enabB_yes {f : FlatD} {M : List MarkD} {k : Nat} (h : fitsB f.en M = true) (hk : k < M.length) (hi : (M.getD k default).inn = true) (hb : (f.T.take f.T.length).any (fun t => t.bars f.en k M) = false) : enabB f M k = true := by
  rw [List.take_length] at hb
  unfold enabB
  rw [h, hb, decide_eq_true (show 0 ≤ (k : Int) ∧ (k : Int) < (M.length : Int) by omega), Int.toNat_natCast, hi]
  rfl
theorem agg105 (w : World) : (isAgg 105).run Try.prog w = .ok true w := by kernel_rfl
theorem size105 : (Try.prog.info? 105).map (·.size) = some 4 := by kernel_rfl
theorem zero105 : (Try.prog.info? 105).map (fun i => (i.size, i.zero.map (·.cells.size))) = some (4, some 4) := by kernel_rfl
theorem bars_eq (t : TieD) (n : Nat) (i : Int) (M : List MarkD) : t.bars n i M = (t.between n && decide (t.dst = i) && !t.free (M.getD t.src.toNat default)) := rfl
set_option maxRecDepth 100000 in
set_option maxHeartbeats 4000000 in
theorem renab_any (f : FlatD) (a : Option Addr) (n c : Nat) (M : List MarkD) (i : Int) (w : World) (hf : FlatAt w f) (h : MarksAt w a n M) (hn : n ≤ 100000) :
    Calls Try.prog 18 #[f.val, .slice a n c, .int .i64 i] w fun e w' => e = .returned (.bool (enabB f M i)) ∧ Fr [] w w' := by
  obtain ⟨ea, en, ec, ta, tn, tc, E, T⟩ := f
  have hen : en ≤ 100000 := hf.few
  have htn : tn ≤ 100000 := hf.few2
  have hr := (Fr.refl [] w).alloc (.cells #[.slice ea en ec, .slice ta tn tc] 31)
  have rb := Row.new w [.slice ea en ec, .slice ta tn tc] 31
  have HR := Lib.hid hr
  have RB := Lib.hid rb
  have HF := Lib.hid hf
  have HM := Lib.hid h
  have C1 := rfits_any ⟨ea, en, ec, ta, tn, tc, E, T⟩ a n c M _ (h.fr hr) hn hen
  clear hf h hr rb
  simp only [FlatD.val] at C1 ⊢
  go_enter Try.func18, Try.ntmps18
  go_wp2_with fail
  refine C1.mono ?_
  rintro e w1 ⟨rfl, hF⟩
  have F1 := Lib.hid (HR.out.trans hF (by simp))
  have x0 : w1.cell? ⟨w.heap.size, 0, none⟩ = some (.slice ea en ec) := (RB.out.fr hF (by simp)).cell 0
  have x1 : w1.cell? ⟨w.heap.size, 1, none⟩ = some (.slice ta tn tc) := (RB.out.fr hF (by simp)).cell 1
  clear hF C1
  cases hfit : fitsB en M
  · have HS := Lib.hid (enabB_nofit (f := ⟨ea, en, ec, ta, tn, tc, E, T⟩) (i := i) hfit)
    clear hfit
    go_wp2_with fail
    go_ret
    exact ⟨ret_bool HS.out.symm, F1.out⟩
  have HFIT := Lib.hid hfit
  have HEN := Lib.hid (show n = en by rw [← HM.out.1]; exact fits_len hfit)
  clear hfit
  by_cases h0 : i < 0
  · have d0 : decide (i < 0) = true := decide_eq_true h0
    have HS := Lib.hid (enabB_range (f := ⟨ea, en, ec, ta, tn, tc, E, T⟩) (M := M) (.inl h0))
    clear h0
    go_wp2_with fail
    go_ret
    exact ⟨ret_bool HS.out.symm, F1.out⟩
  obtain ⟨k, rfl⟩ := Int.eq_ofNat_of_zero_le (by omega : 0 ≤ i)
  have d0 : decide ((k : Int) < 0) = false := decide_eq_false h0
  clear h0
  by_cases h1 : k < n
  case neg =>
    have d1 : decide (n ≤ k) = true := decide_eq_true (by omega)
    have HS := Lib.hid (enabB_range (f := ⟨ea, en, ec, ta, tn, tc, E, T⟩) (M := M) (i := k) (.inr (by rw [HM.out.1]; omega)))
    clear h1
    go_wp2_with fail
    go_ret
    exact ⟨ret_bool HS.out.symm, F1.out⟩
  have d1 : decide (n ≤ k) = false := decide_eq_false (by omega)
  have M1 := Lib.hid (HM.out.fr F1.out)
  obtain ⟨bm, om, rfl, _, hc⟩ := M1.out.2.at_ (by omega)
  have y0 : w1.cell? ⟨bm, om + k * 3, none⟩ = some (.bool (M.getD k default).inn) := hc k h1 0 _ rfl
  clear hc
  cases hin : (M.getD k default).inn
  · rw [hin] at y0
    have HS := Lib.hid (enabB_out (f := ⟨ea, en, ec, ta, tn, tc, E, T⟩) (M := M) (i := k) hin)
    clear hin
    go_wp2_with fail
    go_ret
    exact ⟨ret_bool HS.out.symm, F1.out⟩
  rw [hin] at y0
  have HIN := Lib.hid hin
  clear hin
  go_wp2_with fail
  clear y0
  go_loopg [7] tn (fun q i wr => ∃ (j : Nat), q = tn - j ∧ j ≤ tn ∧ i = .int .i64 j ∧ (T.take j).any (fun t => t.bars en k M) = false ∧ Fr [] w1 wr)
  case atStart => exact ⟨0, rfl, by omega, rfl, rfl, Fr.refl _ _⟩
  case round =>
    obtain ⟨j, rfl, hj, rfl, hg, hF⟩ := hrel
    have HG := Lib.hid hg
    have F2 := Lib.hid hF
    have FW := Lib.hid (F1.out.trans hF (by simp))
    have z0 := cell_fr x0 hF
    have z1 := cell_fr x1 hF
    clear hg hF
    by_cases hjn : j < tn
    · have hd : decide (j < tn) = true := decide_eq_true hjn
      have hjT : j < T.length := by have h : T.length = tn := HF.out.ties.1; omega
      obtain ⟨b1, o1, rfl, hb1, hc1⟩ := (HF.out.fr FW.out).ties.2.at_ (by show 0 < tn; omega)
      have hcx := hc1 j hjn
      have htk := any_take T (fun t => t.bars en k M) j hjT
      have hbar := enabB_bar (f := ⟨ea, en, ec, some ⟨b1, o1, none⟩, tn, tc, E, T⟩) (M := M) (i := k) j hjT
      have hbr := bars_eq (T.getD j default) en k M
      simp only at hbar
      generalize T.getD j default = x at hcx htk hbar hbr
      have hc' : ∀ k' v, ([.int .i64 x.kind, .int .i64 x.src, .int .i64 x.dst, .int .i64 x.time] : List Value)[k']? = some v → wr.cell? ⟨b1, o1 + j * 4 + k', none⟩ = some v := hcx
      have HC := Lib.hid hc'
      have HTK := Lib.hid htk
      have HBAR := Lib.hid hbar
      have HBR := Lib.hid hbr
      clear hcx hc' hc1 htk hbar hbr hjT
      go_wp2_with (first | ((with_reducible refine wpList_load_at rfl 105 (.tmp 42) rfl agg105 4 size105 b1 (o1 + j * 4) [.int .i64 x.kind, .int .i64 x.src, .int .i64 x.dst, .int .i64 x.time] rfl HC.out ?_ ?_); exact rfl) | ((with_reducible refine wpList_var_agg rfl rfl 105 (.tmp 8) (.tmp 43) rfl rfl 4 zero105 [.int .i64 x.kind, .int .i64 x.src, .int .i64 x.dst, .int .i64 x.time] rfl ?_ ?_ ?_ ?_); (intro u hu; simp at hu; rcases hu with rfl | rfl | rfl | rfl <;> rfl); exact rfl; exact rfl))
      intro w6 hr6 hs6 hf6
      have F6 := Lib.hid (F2.out.trans hf6 (by simp))
      have t0 : w6.cell? ⟨wr.heap.size, 0, none⟩ = some (.int .i64 x.kind) := hr6.cell 0
      have t1 : w6.cell? ⟨wr.heap.size, 1, none⟩ = some (.int .i64 x.src) := hr6.cell 1
      have t2 : w6.cell? ⟨wr.heap.size, 2, none⟩ = some (.int .i64 x.dst) := hr6.cell 2
      have t3 : w6.cell? ⟨wr.heap.size, 3, none⟩ = some (.int .i64 x.time) := hr6.cell 3
      have q0 := cell_fr z0 hf6
      have q1 := cell_fr z1 hf6
      clear hr6 hs6 hf6 z0 z1
      have C2 := rtwo_any ⟨ea, en, ec, some ⟨b1, o1, none⟩, tn, tc, E, T⟩ x w6
      simp only [FlatD.val, TieD.val] at C2
      go_wp2_with fail
      refine C2.mono ?_
      rintro e w7 ⟨rfl, hF7⟩
      have F7 := Lib.hid (F6.out.trans hF7 (by simp))
      have t0' := cell_fr t0 hF7
      have t1' := cell_fr t1 hF7
      have t2' := cell_fr t2 hF7
      have t3' := cell_fr t3 hF7
      clear hF7 C2 t0 t1 t2 t3 q0 q1
      have GO : x.bars en k M = false → (∃ j', tn - (j + 1) = tn - j' ∧ j' ≤ tn ∧ Value.int .i64 ((j : Int) + 1) = .int .i64 (j' : Nat) ∧ (T.take j').any (fun t => t.bars en k M) = false) := fun hb => ⟨j + 1, rfl, by omega, rfl, by rw [HTK.out, HG.out, hb]; rfl⟩
      have GO := Lib.hid GO
      cases hbt : x.between en
      · have HB := Lib.hid (show x.bars en k M = false by rw [HBR.out, hbt]; rfl)
        clear hbt
        go_wp2_with fail
        go_roundg (tn - (j + 1))
        case measure => omega
        case rel =>
          obtain ⟨j', h1, h2, h3, h4⟩ := GO.out HB.out
          exact ⟨j', h1, h2, h3, h4, F7.out⟩
      have hbd : 0 ≤ x.src ∧ x.src < en ∧ 0 ≤ x.dst ∧ x.dst < en := by simpa [TieD.between] using hbt
      by_cases hdk : x.dst = (k : Int)
      case neg =>
        have e2 : (x.dst != (k : Int)) = true := by rw [bne_iff_ne]; exact hdk
        have HB := Lib.hid (show x.bars en k M = false by rw [HBR.out, decide_eq_false hdk, Bool.and_false]; rfl)
        clear hbt hdk hbd
        go_wp2_with fail
        go_roundg (tn - (j + 1))
        case measure => omega
        case rel =>
          obtain ⟨j', h1, h2, h3, h4⟩ := GO.out HB.out
          exact ⟨j', h1, h2, h3, h4, F7.out⟩
      have e2 : (x.dst != (k : Int)) = false := by rw [bne_eq_false_iff_eq]; exact hdk
      obtain ⟨s, hs⟩ := Int.eq_ofNat_of_zero_le hbd.1
      have hsn : s < n := by have := HEN.out; omega
      have HFR := Lib.hid (show x.bars en k M = !x.free (M.getD s default) by rw [HBR.out, hbt, decide_eq_true hdk, hs]; rfl)
      obtain ⟨_, _, eq, _, hcm⟩ := (HM.out.fr (F1.out.trans F7.out (by simp))).2.at_ (by omega)
      obtain ⟨rfl, rfl⟩ := (by simpa using eq : bm = _ ∧ om = _)
      have m0 : w7.cell? ⟨bm, om + s * 3, none⟩ = some (.bool (M.getD s default).inn) := hcm s hsn 0 _ rfl
      have m1 : w7.cell? ⟨bm, om + s * 3 + 1, none⟩ = some (.int .i64 (M.getD s default).age) := hcm s hsn 1 _ rfl
      have m2 : w7.cell? ⟨bm, om + s * 3 + 2, none⟩ = some (.int .i64 (M.getD s default).due) := hcm s hsn 2 _ rfl
      rw [hs] at t1'
      clear hcm eq hbt hdk hbd hs
      generalize M.getD s default = y at m0 m1 m2 HFR
      have hfr : x.free y = (!y.inn || (if x.kind = 1 then decide (y.age ≥ 0) && decide (y.age ≥ x.time) else if x.kind = 5 then decide (y.due < 0) else true)) := rfl
      have HFX := Lib.hid hfr
      have q8 := (Fr.refl [] w7).alloc (.cells #[.bool true, .int .i64 y.age, .int .i64 y.due] 52)
      have t0a := cell_fr t0' q8
      have t3a := cell_fr t3' q8
      have G8 := Lib.hid (F7.out.trans q8 (by simp))
      have F8 := Lib.hid (F1.out.trans (F7.out.trans q8 (by simp)) (by simp))
      clear q8
      clear hfr
      cases hyi : y.inn
      · rw [hyi] at m0
        have HB := Lib.hid (show x.bars en k M = false by rw [HFR.out, HFX.out, hyi]; rfl)
        clear hyi
        go_wp2_with fail
        go_roundg (tn - (j + 1))
        case measure => omega
        case rel =>
          obtain ⟨j', h1, h2, h3, h4⟩ := GO.out HB.out
          exact ⟨j', h1, h2, h3, h4, F7.out⟩
      rw [hyi] at m0
      have HFY := Lib.hid (show x.free y = (if x.kind = 1 then decide (y.age ≥ 0) && decide (y.age ≥ x.time) else if x.kind = 5 then decide (y.due < 0) else true) by rw [HFX.out, hyi]; rfl)
      clear hyi
      by_cases hk1 : x.kind = 1
      · have e1 : (x.kind == 1) = true := beq_iff_eq.2 hk1
        have e5 : (x.kind == 5) = false := beq_eq_false_iff_ne.2 (by omega)
        have HFZ := Lib.hid (show x.free y = (decide (y.age ≥ 0) && decide (y.age ≥ x.time)) by rw [HFY.out, if_pos hk1])
        clear hk1
        by_cases ha : y.age < 0
        · have da : decide (y.age < 0) = true := decide_eq_true ha
          have HE := Lib.hid (HBAR.out (by rw [HFR.out, HFZ.out, decide_eq_false (show ¬ y.age ≥ 0 by omega)]; rfl))
          clear ha
          go_wp2_with fail
          go_ret
          exact ⟨ret_bool HE.out.symm, F8.out⟩
        · have da : decide (y.age < 0) = false := decide_eq_false ha
          by_cases hb : y.age < x.time
          · have db : decide (y.age < x.time) = true := decide_eq_true hb
            have HE := Lib.hid (HBAR.out (by rw [HFR.out, HFZ.out, decide_eq_false (show ¬ y.age ≥ x.time by omega), Bool.and_false]; rfl))
            clear ha hb
            go_wp2_with fail
            go_ret
            exact ⟨ret_bool HE.out.symm, F8.out⟩
          · have db : decide (y.age < x.time) = false := decide_eq_false hb
            have HB := Lib.hid (show x.bars en k M = false by rw [HFR.out, HFZ.out, decide_eq_true (show y.age ≥ 0 by omega), decide_eq_true (show y.age ≥ x.time by omega)]; rfl)
            clear ha hb
            go_wp2_with fail
            go_roundg (tn - (j + 1))
            case measure => omega
            case rel =>
              obtain ⟨j', h1, h2, h3, h4⟩ := GO.out HB.out
              exact ⟨j', h1, h2, h3, h4, G8.out⟩
      have e1 : (x.kind == 1) = false := beq_eq_false_iff_ne.2 hk1
      by_cases hk5 : x.kind = 5
      · have e5 : (x.kind == 5) = true := beq_iff_eq.2 hk5
        have HFZ := Lib.hid (show x.free y = decide (y.due < 0) by rw [HFY.out, if_neg hk1, if_pos hk5])
        clear hk1 hk5
        by_cases ha : y.due ≥ 0
        · have da : decide (y.due ≥ 0) = true := decide_eq_true ha
          have HE := Lib.hid (HBAR.out (by rw [HFR.out, HFZ.out, decide_eq_false (show ¬ y.due < 0 by omega)]; rfl))
          clear ha
          go_wp2_with fail
          go_ret
          exact ⟨ret_bool HE.out.symm, F8.out⟩
        · have da : decide (y.due ≥ 0) = false := decide_eq_false ha
          have HB := Lib.hid (show x.bars en k M = false by rw [HFR.out, HFZ.out, decide_eq_true (show y.due < 0 by omega)]; rfl)
          clear ha
          go_wp2_with fail
          go_roundg (tn - (j + 1))
          case measure => omega
          case rel =>
            obtain ⟨j', h1, h2, h3, h4⟩ := GO.out HB.out
            exact ⟨j', h1, h2, h3, h4, G8.out⟩
      · have e5 : (x.kind == 5) = false := beq_eq_false_iff_ne.2 hk5
        have HB := Lib.hid (show x.bars en k M = false by rw [HFR.out, HFY.out, if_neg hk1, if_neg hk5]; rfl)
        clear hk1 hk5
        go_wp2_with fail
        go_roundg (tn - (j + 1))
        case measure => omega
        case rel =>
          obtain ⟨j', h1, h2, h3, h4⟩ := GO.out HB.out
          exact ⟨j', h1, h2, h3, h4, G8.out⟩
    · have hd : decide (j < tn) = false := decide_eq_false hjn
      obtain rfl : tn = j := by omega
      have HE := Lib.hid (enabB_yes (f := ⟨ea, en, ec, ta, tn, tc, E, T⟩) (M := M) (k := k) HFIT.out (by rw [HM.out.1]; exact h1) HIN.out (by have h : T.length = tn := HF.out.ties.1; rw [show (FlatD.mk ea en ec ta tn tc E T).T.length = tn from h]; exact HG.out))
      go_wp2_with fail
      go_ret
      exact ⟨ret_bool HE.out.symm, FW.out⟩
end Go.Proofs.Ytclkahggfdnpgaa
set_option linter.unusedVariables false
set_option linter.unusedSimpArgs false
namespace Go.Proofs.Ytclkahggfdnpgaa
open Go.RowKit
theorem tickE_nofit {f : FlatD} {M : List MarkD} (h : fitsB f.en M = false) : tickE f M = 1 := by
  unfold tickE slackI
  rw [h]
  rfl
theorem tickE_due {f : FlatD} {M : List MarkD} (h : fitsB f.en M = true) (x : MarkD) (hx : x ∈ M) (hi : x.inn = true) (hd : x.due = 0) : tickE f M = 13 := by
  refine tick_due ?_
  have h1 := slack_nn h
  rw [slack_of_fits h] at h1 ⊢
  have := (foldS_le M 1048576).2 x hx ((pend_iff x).2 ⟨hi, by omega⟩)
  omega
theorem foldS_pos (M : List MarkD) : ∀ c : Int, 0 < c → (∀ x ∈ M, x.inn = true → x.due ≠ 0) → 0 < M.foldl slackF c := by
  induction M with
  | nil => intro c h _; exact h
  | cons y M ih =>
    intro c h hx
    rw [List.foldl_cons]
    refine ih _ ?_ (fun x h => hx x (by simp [h]))
    unfold slackF
    split
    · rename_i hp
      have := (pend_iff y).1 hp
      have := hx y (by simp) this.1
      split <;> omega
    · exact h
theorem tickE_go {f : FlatD} {M : List MarkD} (h : fitsB f.en M = true) (hx : ∀ x ∈ M, x.inn = true → x.due ≠ 0) : tickE f M = 0 := by
  refine tick_go h ?_
  rw [slack_of_fits h]
  have := foldS_pos M 1048576 (by decide) hx
  omega
theorem tickM_cells (x : MarkD) (A D : Int) (hA : tickA x = A) (hD : tickU x = D) : (tickM x).cells = [.bool x.inn, .int .i64 A, .int .i64 D] := by
  unfold tickM MarkD.cells
  rw [hA, hD]
theorem own_keep {w w' : World} {base : Nat} {e : TypeId} {size n : Nat} {v : Value} {xs : List Value} {S : List Nat} (h : w.ownsRow base e size v n xs) (f : Fr S w w') (hS : ∀ y, v.ownBlock = some y → y ∉ S) : w'.ownsRow base e size v n xs := by
  refine ⟨h.1, ?_⟩
  rcases h.2 with ⟨rfl, rfl⟩ | ⟨g, cap, cur, rfl, hb, hg, r⟩
  · exact .inl ⟨rfl, rfl⟩
  · exact .inr ⟨g, cap, cur, rfl, hb, (f.block g ((Array.getElem?_eq_some_iff.1 hg).1) (hS g rfl)).trans hg, r⟩
end Go.Proofs.Ytclkahggfdnpgaa
set_option linter.unusedVariables false
set_option linter.unusedSimpArgs false
namespace Go.Proofs.Ytclkahggfdnpgaa
open Go.RowKit
theorem doE_nofit {f : FlatD} {M : List MarkD} {i : Int} (h : fitsB f.en M = false) : doE f M i = 1 := by unfold doE; rw [if_pos h]
theorem doE_range {f : FlatD} {M : List MarkD} {i : Int} (h : fitsB f.en M = true) (hi : i < 0 ∨ (M.length : Int) ≤ i) : doE f M i = 3 := by unfold doE; rw [if_neg (by rw [h]; simp), if_pos hi]
theorem doE_off {f : FlatD} {M : List MarkD} {k : Nat} (h : fitsB f.en M = true) (hi : k < M.length) (he : enabB f M k = false) : doE f M k = 11 := by
  unfold doE
  rw [if_neg (by rw [h]; simp), if_neg (by omega), if_pos he]
theorem doE_go {f : FlatD} {M : List MarkD} {k : Nat} (h : fitsB f.en M = true) (hi : k < M.length) (he : enabB f M k = true) : doE f M k = 0 := by
  unfold doE
  rw [if_neg (by rw [h]; simp), if_neg (by omega), if_neg (by rw [he]; simp)]
section
variable {w : World} {g d : Nat} {N : List MarkD} {C : List Value} {x y : MarkD}
theorem rowCA (hR : Row w g (mcells N ++ C) 52) (h : d < N.length) (hx : N.getD d default = x) (V : Int) : Row (w.setCell ⟨g, d * 3 + 1, none⟩ (.int .i64 V)) g (mcells (N.set d { x with age := V }) ++ C) 52 := by
  have h1 := hR.setCell (d * 3 + 1) (.int .i64 V)
  rw [List.set_append_left _ _ (by rw [mcells_length]; omega), mset_a N d x h hx] at h1
  exact h1
theorem rowCD (hR : Row w g (mcells N ++ C) 52) (h : d < N.length) (hx : N.getD d default = x) (V : Int) (hy : { x with due := V } = y) : Row (w.setCell ⟨g, d * 3 + 2, none⟩ (.int .i64 V)) g (mcells (N.set d y) ++ C) 52 := by
  have h1 := hR.setCell (d * 3 + 2) (.int .i64 V)
  rw [List.set_append_left _ _ (by rw [mcells_length]; omega), mset_d N d x h hx, hy] at h1
  exact h1
theorem rowCI (hR : Row w g (mcells N ++ C) 52) (h : d < N.length) (hx : N.getD d default = x) (b : Bool) (hy : { x with inn := b } = y) : Row (w.setCell ⟨g, d * 3, none⟩ (.bool b)) g (mcells (N.set d y) ++ C) 52 := by
  have h1 := hR.setCell (d * 3) (.bool b)
  rw [List.set_append_left _ _ (by rw [mcells_length]; omega), mset_i N d x h hx, hy] at h1
  exact h1
theorem rowC_at (hR : Row w g (mcells N ++ C) 52) (h : d < N.length) (hx : N.getD d default = x) (r : Nat) (hr : r < 3) : w.cell? ⟨g, d * 3 + r, none⟩ = x.cells[r]? := by
  rw [hR.cell, List.getElem?_append_left (by rw [mcells_length]; omega), mcells_at N d r h hr, hx]
end
theorem rowC_done {w : World} {g k : Nat} {M : List MarkD} {C : List Value} (hR : Row w g (mcells M ++ C) 52) (h : k < M.length) : Row ((w.setCell ⟨g, k * 3 + 1, none⟩ (.int .i64 0)).setCell ⟨g, k * 3 + 2, none⟩ (.int .i64 (-1))) g (mcells (doneM M k) ++ C) 52 := by
  have h1 := rowCA hR h rfl 0
  have h2 := rowCD h1 (by rw [List.length_set]; exact h) (getD_set_same _ _ _ h) (-1) rfl
  rw [List.set_set] at h2
  exact h2
theorem apply2 {t : TieD} {x : MarkD} {V : Int} (h : V = if x.due < 0 ∨ t.time < x.due then clampD t.time else x.due) : { x with due := V } = applyK 2 t x := by
  unfold applyK
  rw [if_pos rfl, h]
  split
  · rfl
  · rfl
theorem stepK_no {kind i : Int} {k : Nat} {N : List MarkD} {t : TieD} (h : ¬ (t.kind = kind ∧ t.src = i ∧ t.between k = true)) : stepK kind i k N t = N := by unfold stepK; rw [if_neg h]
theorem stepK_yes {kind i : Int} {k d : Nat} {N : List MarkD} {t : TieD} (h : t.kind = kind ∧ t.src = i ∧ t.between k = true) (hd : t.dst = d) : stepK kind i k N t = N.set d (applyK kind t (N.getD d default)) := by
  unfold stepK
  rw [if_pos h, hd, Int.toNat_natCast]
theorem fits_good {k : Nat} {M : List MarkD} (h : fitsB k M = true) : ∀ x ∈ M, x.bad = false := ((fits_iff k M).1 h).2
theorem doneM_good (M : List MarkD) (i : Nat) (h : ∀ x ∈ M, x.bad = false) : ∀ x ∈ doneM M i, x.bad = false := by
  unfold doneM
  refine set_good _ _ _ ?_ h
  have hb := (bad_iff _).1 (getD_good M i h)
  rw [bad_iff]
  exact ⟨by show (-1 : Int) ≤ 0; omega, by show (0 : Int) ≤ 65536; omega, by show (-1 : Int) ≤ -1; omega, by show (-1 : Int) ≤ 1048576; omega⟩
end Go.Proofs.Ytclkahggfdnpgaa

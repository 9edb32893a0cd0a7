/- An event is done, the document's own way. (Printed by genrdo.py.) -/
import Derived.Test.YtclkahggfdnpgaaRk6
set_option linter.unusedVariables false
set_option linter.unusedSimpArgs false
namespace Go.Proofs.Ytclkahggfdnpgaa
open Go.RowKit
theorem doE_nofit {f : FlatD} {M : List MarkD} {i : Int} (h : fitsB f.en M = false) : doE f M i = 1 := by unfold doE; rw [if_pos h]
theorem doE_range {f : FlatD} {M : List MarkD} {i : Int} (h : fitsB f.en M = true) (hi : i < 0 ∨ (M.length : Int) ≤ i) : doE f M i = 3 := by unfold doE; rw [if_neg (by rw [h]; simp), if_pos hi]
theorem doE_off {f : FlatD} {M : List MarkD} {k : Nat} (h : fitsB f.en M = true) (hi : k < M.length) (he : enabB f M k = false) : doE f M k = 11 := by
  unfold doE
  rw [if_neg (by rw [h]; simp), if_neg (by omega), if_pos he]
theorem doE_go {f : FlatD} {M : List MarkD} {k : Nat} (h : fitsB f.en M = true) (hi : k < M.length) (he : enabB f M k = true) : doE f M k = 0 := by
  unfold doE
  rw [if_neg (by rw [h]; simp), if_neg (by omega), if_neg (by rw [he]; simp)]
section
variable {w : World} {g d : Nat} {N : List MarkD} {C : List Value} {x y : MarkD}
theorem rowCA (hR : Row w g (mcells N ++ C) 52) (h : d < N.length) (hx : N.getD d default = x) (V : Int) : Row (w.setCell ⟨g, d * 3 + 1, none⟩ (.int .i64 V)) g (mcells (N.set d { x with age := V }) ++ C) 52 := by
  have h1 := hR.setCell (d * 3 + 1) (.int .i64 V)
  rw [List.set_append_left _ _ (by rw [mcells_length]; omega), mset_a N d x h hx] at h1
  exact h1
theorem rowCD (hR : Row w g (mcells N ++ C) 52) (h : d < N.length) (hx : N.getD d default = x) (V : Int) (hy : { x with due := V } = y) : Row (w.setCell ⟨g, d * 3 + 2, none⟩ (.int .i64 V)) g (mcells (N.set d y) ++ C) 52 := by
  have h1 := hR.setCell (d * 3 + 2) (.int .i64 V)
  rw [List.set_append_left _ _ (by rw [mcells_length]; omega), mset_d N d x h hx, hy] at h1
  exact h1
theorem rowCI (hR : Row w g (mcells N ++ C) 52) (h : d < N.length) (hx : N.getD d default = x) (b : Bool) (hy : { x with inn := b } = y) : Row (w.setCell ⟨g, d * 3, none⟩ (.bool b)) g (mcells (N.set d y) ++ C) 52 := by
  have h1 := hR.setCell (d * 3) (.bool b)
  rw [List.set_append_left _ _ (by rw [mcells_length]; omega), mset_i N d x h hx, hy] at h1
  exact h1
theorem rowC_at (hR : Row w g (mcells N ++ C) 52) (h : d < N.length) (hx : N.getD d default = x) (r : Nat) (hr : r < 3) : w.cell? ⟨g, d * 3 + r, none⟩ = x.cells[r]? := by
  rw [hR.cell, List.getElem?_append_left (by rw [mcells_length]; omega), mcells_at N d r h hr, hx]
end
theorem rowC_done {w : World} {g k : Nat} {M : List MarkD} {C : List Value} (hR : Row w g (mcells M ++ C) 52) (h : k < M.length) : Row ((w.setCell ⟨g, k * 3 + 1, none⟩ (.int .i64 0)).setCell ⟨g, k * 3 + 2, none⟩ (.int .i64 (-1))) g (mcells (doneM M k) ++ C) 52 := by
  have h1 := rowCA hR h rfl 0
  have h2 := rowCD h1 (by rw [List.length_set]; exact h) (getD_set_same _ _ _ h) (-1) rfl
  rw [List.set_set] at h2
  exact h2
theorem apply2 {t : TieD} {x : MarkD} {V : Int} (h : V = if x.due < 0 ∨ t.time < x.due then clampD t.time else x.due) : { x with due := V } = applyK 2 t x := by
  unfold applyK
  rw [if_pos rfl, h]
  split
  · rfl
  · rfl
theorem stepK_no {kind i : Int} {k : Nat} {N : List MarkD} {t : TieD} (h : ¬ (t.kind = kind ∧ t.src = i ∧ t.between k = true)) : stepK kind i k N t = N := by unfold stepK; rw [if_neg h]
theorem stepK_yes {kind i : Int} {k d : Nat} {N : List MarkD} {t : TieD} (h : t.kind = kind ∧ t.src = i ∧ t.between k = true) (hd : t.dst = d) : stepK kind i k N t = N.set d (applyK kind t (N.getD d default)) := by
  unfold stepK
  rw [if_pos h, hd, Int.toNat_natCast]
theorem fits_good {k : Nat} {M : List MarkD} (h : fitsB k M = true) : ∀ x ∈ M, x.bad = false := ((fits_iff k M).1 h).2
theorem doneM_good (M : List MarkD) (i : Nat) (h : ∀ x ∈ M, x.bad = false) : ∀ x ∈ doneM M i, x.bad = false := by
  unfold doneM
  refine set_good _ _ _ ?_ h
  have hb := (bad_iff _).1 (getD_good M i h)
  rw [bad_iff]
  exact ⟨by show (-1 : Int) ≤ 0; omega, by show (0 : Int) ≤ 65536; omega, by show (-1 : Int) ≤ -1; omega, by show (-1 : Int) ≤ 1048576; omega⟩
set_option maxRecDepth 100000 in
set_option maxHeartbeats 8000000 in
theorem rdo_any (f : FlatD) (a : Option Addr) (n c : Nat) (M : List MarkD) (i : Int) (w : World) (hf : FlatAt w f) (h : MarksAt w a n M) (hn : n ≤ 100000) :
    Calls Try.prog 30 #[f.val, .slice a n c, .int .i64 i] w (NextP (doM f M i.toNat) (doE f M i) w) := by
  obtain ⟨ea, en, ec, ta, tn, tc, E, T⟩ := f
  have hen : en ≤ 100000 := hf.few
  have htn : tn ≤ 100000 := hf.few2
  obtain ⟨i0, hi, hz0, hz1, hz2⟩ := info_parts infoM
  have HI := Lib.hid hi
  have HZ0 := Lib.hid hz0
  have HZ1 := Lib.hid hz1
  have HZ2 := Lib.hid hz2
  clear hi hz0 hz1 hz2
  have hr := (Fr.refl [] w).alloc (.cells #[.slice ea en ec, .slice ta tn tc] 31)
  have rb := Row.new w [.slice ea en ec, .slice ta tn tc] 31
  have HR := Lib.hid hr
  have RB := Lib.hid rb
  have HF := Lib.hid hf
  have HM := Lib.hid h
  have HL := Lib.hid h.1
  have C1 := rfits_any ⟨ea, en, ec, ta, tn, tc, E, T⟩ a n c M _ (h.fr hr) hn hen
  clear hf h hr rb
  simp only [FlatD.val] at C1 ⊢
  go_enter Try.func30, Try.ntmps30
  go_wp2_with fail
  refine C1.mono ?_
  rintro e w1 ⟨rfl, hF⟩
  have F1 := Lib.hid (HR.out.trans hF (by simp))
  have x0 : w1.cell? ⟨w.heap.size, 0, none⟩ = some (.slice ea en ec) := (RB.out.fr hF (by simp)).cell 0
  have x1 : w1.cell? ⟨w.heap.size, 1, none⟩ = some (.slice ta tn tc) := (RB.out.fr hF (by simp)).cell 1
  clear hF C1
  cases hfit : fitsB en M
  · have HS := Lib.hid (doE_nofit (f := ⟨ea, en, ec, ta, tn, tc, E, T⟩) (i := i) hfit)
    clear hfit
    go_wp2_with fail
    go_ret2
    rw [HS.out]
    exact next_err (by decide) rfl F1.out
  have HFIT := Lib.hid hfit
  have HEN := Lib.hid (show n = en by rw [← HL.out]; exact fits_len hfit)
  clear hfit
  by_cases h0 : i < 0
  · have d0 : decide (i < 0) = true := decide_eq_true h0
    have HS := Lib.hid (doE_range (f := ⟨ea, en, ec, ta, tn, tc, E, T⟩) HFIT.out (.inl h0))
    clear h0
    go_wp2_with fail
    go_ret2
    rw [HS.out]
    exact next_err (by decide) rfl F1.out
  obtain ⟨k, rfl⟩ := Int.eq_ofNat_of_zero_le (by omega : 0 ≤ i)
  have d0 : decide ((k : Int) < 0) = false := decide_eq_false h0
  clear h0
  by_cases h1 : k < n
  case neg =>
    have d1 : decide (n ≤ k) = true := decide_eq_true (by omega)
    have HS := Lib.hid (doE_range (f := ⟨ea, en, ec, ta, tn, tc, E, T⟩) (i := k) HFIT.out (.inr (by rw [HL.out]; omega)))
    clear h1
    go_wp2_with fail
    go_ret2
    rw [HS.out]
    exact next_err (by decide) rfl F1.out
  have d1 : decide (n ≤ k) = false := decide_eq_false (by omega)
  have C2 := renab_any ⟨ea, en, ec, ta, tn, tc, E, T⟩ a n c M k w1 (HF.out.fr F1.out) (HM.out.fr F1.out) hn
  simp only [FlatD.val] at C2
  go_wp2_with fail
  refine C2.mono ?_
  rintro e w4 ⟨rfl, hF4⟩
  have F4 := Lib.hid (F1.out.trans hF4 (by simp))
  have y0 := cell_fr x0 hF4
  have y1 := cell_fr x1 hF4
  clear hF4 C2 x0 x1
  cases he : enabB ⟨ea, en, ec, ta, tn, tc, E, T⟩ M k
  · have HS := Lib.hid (doE_off (f := ⟨ea, en, ec, ta, tn, tc, E, T⟩) (k := k) HFIT.out (by rw [HL.out]; exact h1) he)
    clear he
    go_wp2_with fail
    go_ret2
    rw [HS.out]
    exact next_err (by decide) rfl F4.out
  have HS := Lib.hid (doE_go (f := ⟨ea, en, ec, ta, tn, tc, E, T⟩) (k := k) HFIT.out (by rw [HL.out]; exact h1) he)
  clear he
  obtain ⟨bm, om, rfl, _, _⟩ := (HM.out.fr F4.out).2.at_ (by omega)
  have HW := Lib.hid (own_empty w4 52 3)
  have NW := Lib.hid (src_of_marks ((HM.out.fr F4.out).fr ((Fr.refl [] w4).alloc (.cells #[] 52))))
  have HLN := Lib.hid (show (mcells M).length = n * 3 by rw [mcells_length, HL.out])
  go_wp2_with (at_builtin; refine wpList_append_own _ rfl _ _ 26 rfl w4.heap.size 52 i0 (.agg #[.bool false, .int .i64 0, .int .i64 0]) 3 24 Try.underlying26 HI.out HZ0.out HZ1.out HZ2.out rfl (by decide) _ _ _ rfl HW.out ⟨bm, om, none⟩ n c (mcells M) rfl HLN.out NW.out (mcells_one M) ?c3 ?c4 ?c5 ?_)
  case c3 => unfold maxLen; omega
  case c4 => omega
  case c5 => first | omega | (simp; done) | (simp; omega)
  intro v' w6 hown' hgrow _
  have hF6 : Fr [] w4 w6 := ((Fr.refl [] w4).alloc (.cells #[] 52)).trans (Fr.of_grown hgrow [w4.heap.size] (fun q hq => by simp [Value.ownBlock] at hq; exact .inl (by simp [hq]))) (by simp)
  obtain ⟨g, cap, C, rfl, hgb, hR6⟩ : ∃ g cap C, v' = .slice (some ⟨g, 0, none⟩) n cap ∧ w4.heap.size ≤ g ∧ Row w6 g (mcells M ++ C) 52 := by
    rcases hown'.2 with ⟨_, hz⟩ | ⟨g, cap, cur, rfl, hb, hg, hn', hcm, hcs, ht⟩
    · omega
    · refine ⟨g, cap, cur.toList.drop (n * 3), rfl, hb, ?_⟩
      show w6.heap[g]? = _
      rw [← ht, List.take_append_drop]
      exact hg
  have F6 := Lib.hid (F4.out.trans hF6 (by simp))
  have hkl : k < M.length := by rw [HL.out]; exact h1
  have c1 : w6.cell? ⟨g, k * 3 + 1, none⟩ = some (.int .i64 (M.getD k default).age) := rowC_at hR6 hkl rfl 1 (by omega)
  have f1 : w6.frozen? ⟨g, k * 3 + 1, none⟩ = false := hR6.frozen _
  have r6 := hR6.setCell (k * 3 + 1) (.int .i64 0)
  have c2 : (w6.setCell ⟨g, k * 3 + 1, none⟩ (.int .i64 0)).cell? ⟨g, k * 3 + 2, none⟩ = some (.int .i64 (M.getD k default).due) := rowC_at (rowCA hR6 hkl rfl 0) (by rw [List.length_set]; exact hkl) (getD_set_same _ _ _ hkl) 2 (by omega)
  have f2 : (w6.setCell ⟨g, k * 3 + 1, none⟩ (.int .i64 0)).frozen? ⟨g, k * 3 + 2, none⟩ = false := r6.frozen _
  have RD := Lib.hid (rowC_done hR6 hkl)
  have FD := Lib.hid (((Fr.refl [g] w6).setCell (p := ⟨g, k * 3 + 1, none⟩) (.inl (by simp)) (.int .i64 0)).setCell (p := ⟨g, k * 3 + 2, none⟩) (.inl (by simp)) (.int .i64 (-1)))
  have hws : w.heap.size < w4.heap.size := World.block_lt_of_cell? _ _ y0
  have hgn : w.heap.size ≠ g := by omega
  have e0 := cell_fr y0 hF6
  have e1 := cell_fr y1 hF6
  have HG := Lib.hid hgb
  clear hown' hgrow hF6 hR6 r6 y0 y1
  go_wp2_with fail
  generalize hW0 : ((w6.setCell ⟨g, k * 3 + 1, none⟩ (.int .i64 0)).setCell ⟨g, k * 3 + 2, none⟩ (.int .i64 (-1))) = W0 at RD FD ⊢
  clear hW0 c1 c2 f1 f2
  have HB := Lib.hid (show (doneM M k).length = n by unfold doneM; rw [List.length_set, HL.out])
  have HGO := Lib.hid (doneM_good M k (fits_good HFIT.out))
  have HEX := Lib.hid hgn
  have HWS := Lib.hid hws
  clear hgn hws hkl
  go_loopg [9] tn (fun k' i wr => ∃ (j : Nat), k' = tn - j ∧ j ≤ tn ∧ i = .int .i64 j ∧ Row wr g (mcells (doK 2 k en (T.take j) (doneM M k)) ++ C) 52 ∧ Fr [g] w6 wr)
  case atStart => exact ⟨0, rfl, by omega, rfl, RD.out, FD.out⟩
  case round =>
    obtain ⟨j, rfl, hj, rfl, hR, hF⟩ := hrel
    have R := Lib.hid hR
    have F := Lib.hid hF
    have z0 : wr.cell? ⟨w.heap.size, 0, none⟩ = some (.slice ea en ec) := cell_frS e0 hF HEX.out
    have z1 : wr.cell? ⟨w.heap.size, 1, none⟩ = some (.slice ta tn tc) := cell_frS e1 hF HEX.out
    clear hR hF
    by_cases hjn : j < tn
    · have hd : decide (j < tn) = true := decide_eq_true hjn
      have FW := Lib.hid (F6.out.trans F.out (by intro y hy; simp at hy; have h1 := F4.out.size; have h2 := HG.out; exact .inr (by omega)))
      obtain ⟨b1, o1, rfl, hb1, hc1⟩ := (HF.out.fr FW.out).ties.2.at_ (by show 0 < tn; omega)
      have hcx := hc1 j hjn
      have hlen := doK_length 2 k en (T.take j) (doneM M k)
      have hsu := doK_succ 2 k en T j (by have h : T.length = tn := HF.out.ties.1; omega) (doneM M k)
      have hgood := doK_good 2 k en (T.take j) (doneM M k) HGO.out
      generalize T.getD j default = t at hcx hsu
      have hc' : ∀ k' v, ([.int .i64 t.kind, .int .i64 t.src, .int .i64 t.dst, .int .i64 t.time] : List Value)[k']? = some v → wr.cell? ⟨b1, o1 + j * 4 + k', none⟩ = some v := hcx
      have HC := Lib.hid hc'
      have HSU := Lib.hid hsu
      have HLEN := Lib.hid (hlen.trans HB.out)
      have HGD := Lib.hid hgood
      clear hcx hc' hc1 hsu hlen hgood
      generalize doK 2 k en (T.take j) (doneM M k) = N at R HSU HLEN HGD
      go_wp2_with (first | ((with_reducible refine wpList_load_at rfl 105 (.tmp 54) rfl agg105 4 size105 b1 (o1 + j * 4) [.int .i64 t.kind, .int .i64 t.src, .int .i64 t.dst, .int .i64 t.time] rfl HC.out ?_ ?_); exact rfl) | ((with_reducible refine wpList_var_agg rfl rfl 105 (.tmp 10) (.tmp 55) rfl rfl 4 zero105 [.int .i64 t.kind, .int .i64 t.src, .int .i64 t.dst, .int .i64 t.time] rfl ?_ ?_ ?_ ?_); (intro u hu; simp at hu; rcases hu with rfl | rfl | rfl | rfl <;> rfl); exact rfl; exact rfl))
      intro w7 hr7 hs7 hf7
      have R7 := Lib.hid (R.out.fr hf7 (by simp))
      have F7 := Lib.hid (F.out.trans hf7 (by simp))
      have hsz7 := hf7.size
      have t0 : w7.cell? ⟨wr.heap.size, 0, none⟩ = some (.int .i64 t.kind) := hr7.cell 0
      have t1 : w7.cell? ⟨wr.heap.size, 1, none⟩ = some (.int .i64 t.src) := hr7.cell 1
      have t2 : w7.cell? ⟨wr.heap.size, 2, none⟩ = some (.int .i64 t.dst) := hr7.cell 2
      have t3 : w7.cell? ⟨wr.heap.size, 3, none⟩ = some (.int .i64 t.time) := hr7.cell 3
      have p0 := cell_fr z0 hf7
      have p1 := cell_fr z1 hf7
      clear hr7 hs7 hf7 z0 z1
      by_cases hkd : t.kind = 2
      case neg =>
        have ek : (t.kind == 2) = false := beq_eq_false_iff_ne.2 hkd
        have HST := Lib.hid (HSU.out.trans (stepK_no (fun h => hkd h.1)))
        clear hkd
        go_wp2_with fail
        go_roundg (tn - (j + 1))
        case measure => omega
        case rel => exact ⟨j + 1, rfl, by omega, rfl, by rw [HST.out]; exact R7.out, F7.out⟩
      have ek : (t.kind == 2) = true := beq_iff_eq.2 hkd
      by_cases hsr : t.src = k
      case neg =>
        have es : (t.src == (k : Int)) = false := beq_eq_false_iff_ne.2 hsr
        have HST := Lib.hid (HSU.out.trans (stepK_no (fun h => hsr h.2.1)))
        clear hkd hsr
        go_wp2_with fail
        go_roundg (tn - (j + 1))
        case measure => omega
        case rel => exact ⟨j + 1, rfl, by omega, rfl, by rw [HST.out]; exact R7.out, F7.out⟩
      have es : (t.src == (k : Int)) = true := beq_iff_eq.2 hsr
      have C8 := rtwo_any ⟨ea, en, ec, some ⟨b1, o1, none⟩, tn, tc, E, T⟩ t w7
      simp only [FlatD.val, TieD.val] at C8
      have HKD := Lib.hid hkd
      have HSR := Lib.hid hsr
      clear hkd hsr
      go_wp2_with fail
      refine C8.mono ?_
      rintro e w8 ⟨rfl, hF8⟩
      have R8 := Lib.hid (R7.out.fr hF8 (by simp))
      have F8 := Lib.hid (F7.out.trans hF8 (by simp))
      have s2 := cell_fr t2 hF8
      have s3 := cell_fr t3 hF8
      clear hF8 C8 t0 t1 t2 t3 p0 p1
      cases hb : t.between en
      · have HST := Lib.hid (HSU.out.trans (stepK_no (fun h => by rw [hb] at h; simp at h)))
        clear hb
        go_wp2_with fail
        go_roundg (tn - (j + 1))
        case measure => omega
        case rel => exact ⟨j + 1, rfl, by omega, rfl, by rw [HST.out]; exact R8.out, F8.out⟩
      have hbb : 0 ≤ t.src ∧ t.src < en ∧ 0 ≤ t.dst ∧ t.dst < en := by simpa [TieD.between] using hb
      obtain ⟨dn, hdn⟩ := Int.eq_ofNat_of_zero_le hbb.2.2.1
      have hdl : dn < n := by have := HEN.out; omega
      have hNl : dn < N.length := by rw [HLEN.out]; exact hdl
      have HST := Lib.hid (HSU.out.trans (stepK_yes ⟨HKD.out, HSR.out, hb⟩ hdn))
      have hgx := (bad_iff _).1 (getD_good N dn HGD.out)
      rw [hdn] at s2
      clear hb hbb hdn
      have v0 : w8.cell? ⟨g, dn * 3, none⟩ = some (.bool (N.getD dn default).inn) := rowC_at R8.out hNl rfl 0 (by omega)
      have v2 : w8.cell? ⟨g, dn * 3 + 2, none⟩ = some (.int .i64 (N.getD dn default).due) := rowC_at R8.out hNl rfl 2 (by omega)
      have v0f : w8.frozen? ⟨g, dn * 3, none⟩ = false := R8.out.frozen _
      have v2f : w8.frozen? ⟨g, dn * 3 + 2, none⟩ = false := R8.out.frozen _
      have HXX := Lib.hid (rfl : N.getD dn default = N.getD dn default)
      have HNL := Lib.hid hNl
      generalize hxx : N.getD dn default = x at v0 v2 HST hgx
      have HX := Lib.hid hxx
      clear hxx HXX hNl
      by_cases hu : x.due ≥ 0
      · have du : decide (x.due ≥ 0) = true := decide_eq_true hu
        go_wp2_with fail
        all_goals
          go_roundg (tn - (j + 1))
          case measure => omega
          case rel => exact ⟨j + 1, rfl, by omega, rfl, by rw [HST.out]; exact rowCD R8.out HNL.out HX.out _ (apply2 (by unfold clampD; split <;> (try split) <;> (try split) <;> omega)), F8.out.setCell (by simp) _⟩
      · have du : decide (x.due ≥ 0) = false := decide_eq_false hu
        go_wp2_with fail
        all_goals
          go_roundg (tn - (j + 1))
          case measure => omega
          case rel => exact ⟨j + 1, rfl, by omega, rfl, by rw [HST.out]; exact rowCD R8.out HNL.out HX.out _ (apply2 (by unfold clampD; split <;> (try split) <;> (try split) <;> omega)), F8.out.setCell (by simp) _⟩
    · have hd : decide (j < tn) = false := decide_eq_false hjn
      obtain rfl : tn = j := by omega
      have hfull : T.take tn = T := List.take_of_length_le (by have h : T.length = tn := HF.out.ties.1; omega)
      have hR := R.out
      rw [hfull] at hR
      have RD := Lib.hid hR
      have FD := Lib.hid F.out
      have HB := Lib.hid ((doK_length 2 k en T (doneM M k)).trans HB.out)
      have HGO := Lib.hid (doK_good 2 k en T (doneM M k) HGO.out)
      clear hfull hR
      go_wp2_with fail
      clear z0 z1
      go_loopg [12] tn (fun k' i wr => ∃ (j : Nat), k' = tn - j ∧ j ≤ tn ∧ i = .int .i64 j ∧ Row wr g (mcells (doK 4 k en (T.take j) (doK 2 k en T (doneM M k))) ++ C) 52 ∧ Fr [g] w6 wr)
      case atStart => exact ⟨0, rfl, by omega, rfl, RD.out, FD.out⟩
      case round =>
        obtain ⟨j, rfl, hj, rfl, hR, hF⟩ := hrel
        have R := Lib.hid hR
        have F := Lib.hid hF
        have z0 : wr.cell? ⟨w.heap.size, 0, none⟩ = some (.slice ea en ec) := cell_frS e0 hF HEX.out
        have z1 : wr.cell? ⟨w.heap.size, 1, none⟩ = some (.slice ta tn tc) := cell_frS e1 hF HEX.out
        clear hR hF
        by_cases hjn : j < tn
        · have hd : decide (j < tn) = true := decide_eq_true hjn
          have FW := Lib.hid (F6.out.trans F.out (by intro y hy; simp at hy; have h1 := F4.out.size; have h2 := HG.out; exact .inr (by omega)))
          obtain ⟨b1, o1, rfl, hb1, hc1⟩ := (HF.out.fr FW.out).ties.2.at_ (by show 0 < tn; omega)
          have hcx := hc1 j hjn
          have hlen := doK_length 4 k en (T.take j) (doK 2 k en T (doneM M k))
          have hsu := doK_succ 4 k en T j (by have h : T.length = tn := HF.out.ties.1; omega) (doK 2 k en T (doneM M k))
          have hgood := doK_good 4 k en (T.take j) (doK 2 k en T (doneM M k)) HGO.out
          generalize T.getD j default = t at hcx hsu
          have hc' : ∀ k' v, ([.int .i64 t.kind, .int .i64 t.src, .int .i64 t.dst, .int .i64 t.time] : List Value)[k']? = some v → wr.cell? ⟨b1, o1 + j * 4 + k', none⟩ = some v := hcx
          have HC := Lib.hid hc'
          have HSU := Lib.hid hsu
          have HLEN := Lib.hid (hlen.trans HB.out)
          have HGD := Lib.hid hgood
          clear hcx hc' hc1 hsu hlen hgood
          generalize doK 4 k en (T.take j) (doK 2 k en T (doneM M k)) = N at R HSU HLEN HGD
          go_wp2_with (first | ((with_reducible refine wpList_load_at rfl 105 (.tmp 105) rfl agg105 4 size105 b1 (o1 + j * 4) [.int .i64 t.kind, .int .i64 t.src, .int .i64 t.dst, .int .i64 t.time] rfl HC.out ?_ ?_); exact rfl) | ((with_reducible refine wpList_var_agg rfl rfl 105 (.tmp 13) (.tmp 106) rfl rfl 4 zero105 [.int .i64 t.kind, .int .i64 t.src, .int .i64 t.dst, .int .i64 t.time] rfl ?_ ?_ ?_ ?_); (intro u hu; simp at hu; rcases hu with rfl | rfl | rfl | rfl <;> rfl); exact rfl; exact rfl))
          intro w7 hr7 hs7 hf7
          have R7 := Lib.hid (R.out.fr hf7 (by simp))
          have F7 := Lib.hid (F.out.trans hf7 (by simp))
          have hsz7 := hf7.size
          have t0 : w7.cell? ⟨wr.heap.size, 0, none⟩ = some (.int .i64 t.kind) := hr7.cell 0
          have t1 : w7.cell? ⟨wr.heap.size, 1, none⟩ = some (.int .i64 t.src) := hr7.cell 1
          have t2 : w7.cell? ⟨wr.heap.size, 2, none⟩ = some (.int .i64 t.dst) := hr7.cell 2
          have t3 : w7.cell? ⟨wr.heap.size, 3, none⟩ = some (.int .i64 t.time) := hr7.cell 3
          have p0 := cell_fr z0 hf7
          have p1 := cell_fr z1 hf7
          clear hr7 hs7 hf7 z0 z1
          by_cases hkd : t.kind = 4
          case neg =>
            have ek : (t.kind == 4) = false := beq_eq_false_iff_ne.2 hkd
            have HST := Lib.hid (HSU.out.trans (stepK_no (fun h => hkd h.1)))
            clear hkd
            go_wp2_with fail
            go_roundg (tn - (j + 1))
            case measure => omega
            case rel => exact ⟨j + 1, rfl, by omega, rfl, by rw [HST.out]; exact R7.out, F7.out⟩
          have ek : (t.kind == 4) = true := beq_iff_eq.2 hkd
          by_cases hsr : t.src = k
          case neg =>
            have es : (t.src == (k : Int)) = false := beq_eq_false_iff_ne.2 hsr
            have HST := Lib.hid (HSU.out.trans (stepK_no (fun h => hsr h.2.1)))
            clear hkd hsr
            go_wp2_with fail
            go_roundg (tn - (j + 1))
            case measure => omega
            case rel => exact ⟨j + 1, rfl, by omega, rfl, by rw [HST.out]; exact R7.out, F7.out⟩
          have es : (t.src == (k : Int)) = true := beq_iff_eq.2 hsr
          have C8 := rtwo_any ⟨ea, en, ec, some ⟨b1, o1, none⟩, tn, tc, E, T⟩ t w7
          simp only [FlatD.val, TieD.val] at C8
          have HKD := Lib.hid hkd
          have HSR := Lib.hid hsr
          clear hkd hsr
          go_wp2_with fail
          refine C8.mono ?_
          rintro e w8 ⟨rfl, hF8⟩
          have R8 := Lib.hid (R7.out.fr hF8 (by simp))
          have F8 := Lib.hid (F7.out.trans hF8 (by simp))
          have s2 := cell_fr t2 hF8
          have s3 := cell_fr t3 hF8
          clear hF8 C8 t0 t1 t2 t3 p0 p1
          cases hb : t.between en
          · have HST := Lib.hid (HSU.out.trans (stepK_no (fun h => by rw [hb] at h; simp at h)))
            clear hb
            go_wp2_with fail
            go_roundg (tn - (j + 1))
            case measure => omega
            case rel => exact ⟨j + 1, rfl, by omega, rfl, by rw [HST.out]; exact R8.out, F8.out⟩
          have hbb : 0 ≤ t.src ∧ t.src < en ∧ 0 ≤ t.dst ∧ t.dst < en := by simpa [TieD.between] using hb
          obtain ⟨dn, hdn⟩ := Int.eq_ofNat_of_zero_le hbb.2.2.1
          have hdl : dn < n := by have := HEN.out; omega
          have hNl : dn < N.length := by rw [HLEN.out]; exact hdl
          have HST := Lib.hid (HSU.out.trans (stepK_yes ⟨HKD.out, HSR.out, hb⟩ hdn))
          have hgx := (bad_iff _).1 (getD_good N dn HGD.out)
          rw [hdn] at s2
          clear hb hbb hdn
          have v0 : w8.cell? ⟨g, dn * 3, none⟩ = some (.bool (N.getD dn default).inn) := rowC_at R8.out hNl rfl 0 (by omega)
          have v2 : w8.cell? ⟨g, dn * 3 + 2, none⟩ = some (.int .i64 (N.getD dn default).due) := rowC_at R8.out hNl rfl 2 (by omega)
          have v0f : w8.frozen? ⟨g, dn * 3, none⟩ = false := R8.out.frozen _
          have v2f : w8.frozen? ⟨g, dn * 3 + 2, none⟩ = false := R8.out.frozen _
          have HXX := Lib.hid (rfl : N.getD dn default = N.getD dn default)
          have HNL := Lib.hid hNl
          generalize hxx : N.getD dn default = x at v0 v2 HST hgx
          have HX := Lib.hid hxx
          clear hxx HXX hNl
          clear hgx
          go_wp2_with fail
          go_roundg (tn - (j + 1))
          case measure => omega
          case rel => exact ⟨j + 1, rfl, by omega, rfl, by rw [HST.out]; exact rowCI R8.out HNL.out HX.out _ rfl, F8.out.setCell (by simp) _⟩
        · have hd : decide (j < tn) = false := decide_eq_false hjn
          obtain rfl : tn = j := by omega
          have hfull : T.take tn = T := List.take_of_length_le (by have h : T.length = tn := HF.out.ties.1; omega)
          have hR := R.out
          rw [hfull] at hR
          have RD := Lib.hid hR
          have FD := Lib.hid F.out
          have HB := Lib.hid ((doK_length 4 k en T (doK 2 k en T (doneM M k))).trans HB.out)
          have HGO := Lib.hid (doK_good 4 k en T (doK 2 k en T (doneM M k)) HGO.out)
          clear hfull hR
          go_wp2_with fail
          clear z0 z1
          go_loopg [14] tn (fun k' i wr => ∃ (j : Nat), k' = tn - j ∧ j ≤ tn ∧ i = .int .i64 j ∧ Row wr g (mcells (doK 3 k en (T.take j) (doK 4 k en T (doK 2 k en T (doneM M k)))) ++ C) 52 ∧ Fr [g] w6 wr)
          case atStart => exact ⟨0, rfl, by omega, rfl, RD.out, FD.out⟩
          case round =>
            obtain ⟨j, rfl, hj, rfl, hR, hF⟩ := hrel
            have R := Lib.hid hR
            have F := Lib.hid hF
            have z0 : wr.cell? ⟨w.heap.size, 0, none⟩ = some (.slice ea en ec) := cell_frS e0 hF HEX.out
            have z1 : wr.cell? ⟨w.heap.size, 1, none⟩ = some (.slice ta tn tc) := cell_frS e1 hF HEX.out
            clear hR hF
            by_cases hjn : j < tn
            · have hd : decide (j < tn) = true := decide_eq_true hjn
              have FW := Lib.hid (F6.out.trans F.out (by intro y hy; simp at hy; have h1 := F4.out.size; have h2 := HG.out; exact .inr (by omega)))
              obtain ⟨b1, o1, rfl, hb1, hc1⟩ := (HF.out.fr FW.out).ties.2.at_ (by show 0 < tn; omega)
              have hcx := hc1 j hjn
              have hlen := doK_length 3 k en (T.take j) (doK 4 k en T (doK 2 k en T (doneM M k)))
              have hsu := doK_succ 3 k en T j (by have h : T.length = tn := HF.out.ties.1; omega) (doK 4 k en T (doK 2 k en T (doneM M k)))
              have hgood := doK_good 3 k en (T.take j) (doK 4 k en T (doK 2 k en T (doneM M k))) HGO.out
              generalize T.getD j default = t at hcx hsu
              have hc' : ∀ k' v, ([.int .i64 t.kind, .int .i64 t.src, .int .i64 t.dst, .int .i64 t.time] : List Value)[k']? = some v → wr.cell? ⟨b1, o1 + j * 4 + k', none⟩ = some v := hcx
              have HC := Lib.hid hc'
              have HSU := Lib.hid hsu
              have HLEN := Lib.hid (hlen.trans HB.out)
              have HGD := Lib.hid hgood
              clear hcx hc' hc1 hsu hlen hgood
              generalize doK 3 k en (T.take j) (doK 4 k en T (doK 2 k en T (doneM M k))) = N at R HSU HLEN HGD
              go_wp2_with (first | ((with_reducible refine wpList_load_at rfl 105 (.tmp 136) rfl agg105 4 size105 b1 (o1 + j * 4) [.int .i64 t.kind, .int .i64 t.src, .int .i64 t.dst, .int .i64 t.time] rfl HC.out ?_ ?_); exact rfl) | ((with_reducible refine wpList_var_agg rfl rfl 105 (.tmp 15) (.tmp 137) rfl rfl 4 zero105 [.int .i64 t.kind, .int .i64 t.src, .int .i64 t.dst, .int .i64 t.time] rfl ?_ ?_ ?_ ?_); (intro u hu; simp at hu; rcases hu with rfl | rfl | rfl | rfl <;> rfl); exact rfl; exact rfl))
              intro w7 hr7 hs7 hf7
              have R7 := Lib.hid (R.out.fr hf7 (by simp))
              have F7 := Lib.hid (F.out.trans hf7 (by simp))
              have hsz7 := hf7.size
              have t0 : w7.cell? ⟨wr.heap.size, 0, none⟩ = some (.int .i64 t.kind) := hr7.cell 0
              have t1 : w7.cell? ⟨wr.heap.size, 1, none⟩ = some (.int .i64 t.src) := hr7.cell 1
              have t2 : w7.cell? ⟨wr.heap.size, 2, none⟩ = some (.int .i64 t.dst) := hr7.cell 2
              have t3 : w7.cell? ⟨wr.heap.size, 3, none⟩ = some (.int .i64 t.time) := hr7.cell 3
              have p0 := cell_fr z0 hf7
              have p1 := cell_fr z1 hf7
              clear hr7 hs7 hf7 z0 z1
              by_cases hkd : t.kind = 3
              case neg =>
                have ek : (t.kind == 3) = false := beq_eq_false_iff_ne.2 hkd
                have HST := Lib.hid (HSU.out.trans (stepK_no (fun h => hkd h.1)))
                clear hkd
                go_wp2_with fail
                go_roundg (tn - (j + 1))
                case measure => omega
                case rel => exact ⟨j + 1, rfl, by omega, rfl, by rw [HST.out]; exact R7.out, F7.out⟩
              have ek : (t.kind == 3) = true := beq_iff_eq.2 hkd
              by_cases hsr : t.src = k
              case neg =>
                have es : (t.src == (k : Int)) = false := beq_eq_false_iff_ne.2 hsr
                have HST := Lib.hid (HSU.out.trans (stepK_no (fun h => hsr h.2.1)))
                clear hkd hsr
                go_wp2_with fail
                go_roundg (tn - (j + 1))
                case measure => omega
                case rel => exact ⟨j + 1, rfl, by omega, rfl, by rw [HST.out]; exact R7.out, F7.out⟩
              have es : (t.src == (k : Int)) = true := beq_iff_eq.2 hsr
              have C8 := rtwo_any ⟨ea, en, ec, some ⟨b1, o1, none⟩, tn, tc, E, T⟩ t w7
              simp only [FlatD.val, TieD.val] at C8
              have HKD := Lib.hid hkd
              have HSR := Lib.hid hsr
              clear hkd hsr
              go_wp2_with fail
              refine C8.mono ?_
              rintro e w8 ⟨rfl, hF8⟩
              have R8 := Lib.hid (R7.out.fr hF8 (by simp))
              have F8 := Lib.hid (F7.out.trans hF8 (by simp))
              have s2 := cell_fr t2 hF8
              have s3 := cell_fr t3 hF8
              clear hF8 C8 t0 t1 t2 t3 p0 p1
              cases hb : t.between en
              · have HST := Lib.hid (HSU.out.trans (stepK_no (fun h => by rw [hb] at h; simp at h)))
                clear hb
                go_wp2_with fail
                go_roundg (tn - (j + 1))
                case measure => omega
                case rel => exact ⟨j + 1, rfl, by omega, rfl, by rw [HST.out]; exact R8.out, F8.out⟩
              have hbb : 0 ≤ t.src ∧ t.src < en ∧ 0 ≤ t.dst ∧ t.dst < en := by simpa [TieD.between] using hb
              obtain ⟨dn, hdn⟩ := Int.eq_ofNat_of_zero_le hbb.2.2.1
              have hdl : dn < n := by have := HEN.out; omega
              have hNl : dn < N.length := by rw [HLEN.out]; exact hdl
              have HST := Lib.hid (HSU.out.trans (stepK_yes ⟨HKD.out, HSR.out, hb⟩ hdn))
              have hgx := (bad_iff _).1 (getD_good N dn HGD.out)
              rw [hdn] at s2
              clear hb hbb hdn
              have v0 : w8.cell? ⟨g, dn * 3, none⟩ = some (.bool (N.getD dn default).inn) := rowC_at R8.out hNl rfl 0 (by omega)
              have v2 : w8.cell? ⟨g, dn * 3 + 2, none⟩ = some (.int .i64 (N.getD dn default).due) := rowC_at R8.out hNl rfl 2 (by omega)
              have v0f : w8.frozen? ⟨g, dn * 3, none⟩ = false := R8.out.frozen _
              have v2f : w8.frozen? ⟨g, dn * 3 + 2, none⟩ = false := R8.out.frozen _
              have HXX := Lib.hid (rfl : N.getD dn default = N.getD dn default)
              have HNL := Lib.hid hNl
              generalize hxx : N.getD dn default = x at v0 v2 HST hgx
              have HX := Lib.hid hxx
              clear hxx HXX hNl
              clear hgx
              go_wp2_with fail
              go_roundg (tn - (j + 1))
              case measure => omega
              case rel => exact ⟨j + 1, rfl, by omega, rfl, by rw [HST.out]; exact rowCI R8.out HNL.out HX.out _ rfl, F8.out.setCell (by simp) _⟩
            · have hd : decide (j < tn) = false := decide_eq_false hjn
              obtain rfl : tn = j := by omega
              have hfull : T.take tn = T := List.take_of_length_le (by have h : T.length = tn := HF.out.ties.1; omega)
              have hR := R.out
              rw [hfull] at hR
              have RD := Lib.hid hR
              have FD := Lib.hid F.out
              have HB := Lib.hid ((doK_length 3 k en T (doK 4 k en T (doK 2 k en T (doneM M k)))).trans HB.out)
              have HGO := Lib.hid (doK_good 3 k en T (doK 4 k en T (doK 2 k en T (doneM M k))) HGO.out)
              clear hfull hR
              go_wp2_with fail
              clear z0 z1
              go_ret2
              have FW := F6.out.trans FD.out (by intro y hy; simp at hy; have h1 := F4.out.size; have h2 := HG.out; exact .inr (by omega))
              rw [HS.out]
              refine ⟨some ⟨g, 0, none⟩, cap, ?_, ?_, FW⟩
              · rw [if_pos rfl, doM_length, HL.out]
                rfl
              · rw [if_pos rfl, if_pos rfl, doM_length, HL.out, Int.toNat_natCast]
                exact marks_of_row RD.out n HB.out
end Go.Proofs.Ytclkahggfdnpgaa
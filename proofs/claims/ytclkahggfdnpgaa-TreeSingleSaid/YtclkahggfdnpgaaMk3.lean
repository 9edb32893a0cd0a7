/- Enabled; the slack. -/
import Derived.Test.YtclkahggfdnpgaaMk2
set_option linter.unusedVariables false
set_option linter.unusedSimpArgs false
namespace Go.Proofs.Ytclkahggfdnpgaa
open Go.RowKit
theorem agg57 (w : World) : (isAgg 57).run Try.prog w = .ok true w := by kernel_rfl
theorem size57 : (Try.prog.info? 57).map (·.size) = some 4 := by kernel_rfl
theorem zero57 : (Try.prog.info? 57).map (fun i => (i.size, i.zero.map (·.cells.size))) = some (4, some 4) := by kernel_rfl
def TieD.cells4 (t : TieD) : List Value := [.int .i64 t.kind, .int .i64 t.src, .int .i64 t.dst, .int .i64 t.time]
theorem index_bars (bf ba bm : Nat) (f : FlatD) (at' : Int) (a : Option Addr) (n c : Nat) (M : List MarkD) (w : World) (hc : Caught w bf ba bm f at' a n c) (h : MarksAt w a n M) (hen : f.en = n) (ta : Option Addr) (tn tc : Nat) (T : List TieD) (hT : TiesAt w ta tn T) (hn : tn ≤ 100000) :
    Calls Try.prog 85 #[.slice ta tn tc, .func (.func 64) #[] #[.pointer (some ⟨bf, 0, none⟩), .pointer (some ⟨ba, 0, none⟩), .pointer (some ⟨bm, 0, none⟩)]] w fun e w' => ∃ r : Int, e = .returned (.int .i64 r) ∧ decide (r ≥ 0) = T.any (fun t => t.bars f.en at' M) ∧ Fr [] w w' := by
  obtain ⟨hl, hR⟩ := hT
  have R := Lib.hid hR
  have HL := Lib.hid hl
  have HC0 := Lib.hid hc
  have HM0 := Lib.hid h
  have HEN := Lib.hid hen
  clear hR hl hc h hen
  go_enter Try.func85, Try.ntmps85
  go_wp2_with fail
  go_loopg [8] tn (fun k i wr => ∃ j : Nat, k = tn - j ∧ j ≤ tn ∧ i = .int .i64 j ∧ (T.take j).any (fun t => t.bars f.en at' M) = false ∧ Fr [] w wr)
  case atStart => exact ⟨0, rfl, by omega, rfl, by simp, Fr.refl _ _⟩
  case round =>
    obtain ⟨j, rfl, hj, rfl, hp, hF⟩ := hrel
    have P := Lib.hid hp
    have F := Lib.hid hF
    clear hp hF
    by_cases hjn : j < tn
    · have hd : decide (j < tn) = true := by rw [decide_eq_true_iff]; omega
      obtain ⟨b1, o1, rfl, hb1, hc1⟩ := (R.out.fr F.out).at_ (by omega)
      have hcx := hc1 j hjn
      have ht := take_succD T j (by rw [HL.out]; exact hjn)
      generalize T.getD j default = x at hcx ht
      have hc' : ∀ k v, ([.int .i64 x.kind, .int .i64 x.src, .int .i64 x.dst, .int .i64 x.time] : List Value)[k]? = some v → wr.cell? ⟨b1, o1 + j * 4 + k, none⟩ = some v := hcx
      have HC := Lib.hid hc'
      have HT := Lib.hid ht
      have C1 := barf_any bf ba bm f at' a n c M x wr (HC0.out.fr F.out) (HM0.out.fr F.out) HEN.out
      unfold TieD.val at C1
      clear hcx hc' hc1 ht
      go_wp2_with ((with_reducible refine wpList_load_at rfl 57 (.tmp 14) rfl agg57 4 size57 b1 (o1 + j * 4) [.int .i64 x.kind, .int .i64 x.src, .int .i64 x.dst, .int .i64 x.time] rfl HC.out ?_ ?_); exact rfl)
      refine C1.mono ?_
      rintro e w2 ⟨rfl, hF2⟩
      have F2 := Lib.hid (F.out.trans hF2 (by simp))
      clear hF2 C1
      by_cases hx : x.bars f.en at' M = true
      · rw [hx]
        go_wp2_with fail
        go_ret
        refine ⟨j, rfl, ?_, F2.out⟩
        have hm : T.any (fun t => t.bars f.en at' M) = true := by
          rw [← List.take_append_drop (j + 1) T, HT.out, List.any_append, List.any_append]
          simp [hx]
        rw [hm, decide_eq_true_iff]
        omega
      · have hx : x.bars f.en at' M = false := by simpa using hx
        rw [hx]
        go_wp2_with fail
        go_roundg (tn - (j + 1))
        case measure => omega
        case rel => exact ⟨j + 1, rfl, by omega, rfl, by rw [HT.out, List.any_append, P.out]; simp [hx], F2.out⟩
    · have hd : decide (j < tn) = false := by rw [decide_eq_false_iff_not]; omega
      have hfull : T.take j = T := List.take_of_length_le (by rw [HL.out]; omega)
      have hp := P.out
      rw [hfull] at hp
      have HP := Lib.hid hp
      clear hfull hp
      go_wp2_with fail
      go_ret
      exact ⟨-1, rfl, by rw [HP.out]; decide, F.out⟩
theorem has_bars (bf ba bm : Nat) (f : FlatD) (at' : Int) (a : Option Addr) (n c : Nat) (M : List MarkD) (w : World) (hc : Caught w bf ba bm f at' a n c) (h : MarksAt w a n M) (hen : f.en = n) (ta : Option Addr) (tn tc : Nat) (T : List TieD) (hT : TiesAt w ta tn T) (hn : tn ≤ 100000) :
    Calls Try.prog 63 #[.slice ta tn tc, .func (.func 64) #[] #[.pointer (some ⟨bf, 0, none⟩), .pointer (some ⟨ba, 0, none⟩), .pointer (some ⟨bm, 0, none⟩)]] w fun e w' => e = .returned (.bool (T.any (fun t => t.bars f.en at' M))) ∧ Fr [] w w' := by
  have C1 := index_bars bf ba bm f at' a n c M w hc h hen ta tn tc T hT hn
  clear h hc hT hen
  go_enter Try.func63, Try.ntmps63
  go_wp2_with fail
  refine C1.mono ?_
  rintro e w2 ⟨r, rfl, hr, hF⟩
  go_wp2_with fail
  go_ret
  exact ⟨rfl, hF⟩
def enabB (f : FlatD) (M : List MarkD) (i : Int) : Bool := fitsB f.en M && decide (0 ≤ i ∧ i < M.length) && (M.getD i.toNat default).inn && !f.T.any (fun t => t.bars f.en i M)
theorem fits_len {k : Nat} {M : List MarkD} (h : fitsB k M = true) : M.length = k := by
  unfold fitsB at h
  simp at h
  exact h.1
set_option maxHeartbeats 400000 in
theorem enab_any (f : FlatD) (a : Option Addr) (n c : Nat) (M : List MarkD) (i : Int) (w : World) (hf : FlatAt w f) (h : MarksAt w a n M) (hn : n ≤ 100000) :
    Calls Try.prog 19 #[f.val, .slice a n c, .int .i64 i] w fun e w' => e = .returned (.bool (enabB f M i)) ∧ Fr [] w w' := by
  have hl := h.1
  have hr := (((Fr.refl [] w).alloc (.cells #[.slice f.ea f.en f.ec, .slice f.ta f.tn f.tc] 25)).alloc (.cells #[.slice a n c] 26)).alloc (.cells #[.int .i64 i] 3)
  have hca : Caught (((w.alloc (.cells #[.slice f.ea f.en f.ec, .slice f.ta f.tn f.tc] 25)).alloc (.cells #[.slice a n c] 26)).alloc (.cells #[.int .i64 i] 3)) w.heap.size (w.heap.size + 2) (w.heap.size + 1) f i a n c := by
    have r1 := ((Row.new w [.slice f.ea f.en f.ec, .slice f.ta f.tn f.tc] 25).alloc (.cells #[.slice a n c] 26)).alloc (.cells #[.int .i64 i] 3)
    have r2 := (Row.new (w.alloc (.cells #[.slice f.ea f.en f.ec, .slice f.ta f.tn f.tc] 25)) [.slice a n c] 26).alloc (.cells #[.int .i64 i] 3)
    have r3 := Row.new ((w.alloc (.cells #[.slice f.ea f.en f.ec, .slice f.ta f.tn f.tc] 25)).alloc (.cells #[.slice a n c] 26)) [.int .i64 i] 3
    have e1 : (w.alloc (.cells #[.slice f.ea f.en f.ec, .slice f.ta f.tn f.tc] 25)).heap.size = w.heap.size + 1 := by simp
    have e2 : ((w.alloc (.cells #[.slice f.ea f.en f.ec, .slice f.ta f.tn f.tc] 25)).alloc (.cells #[.slice a n c] 26)).heap.size = w.heap.size + 2 := by simp
    rw [e1] at r2
    rw [e2] at r3
    exact ⟨r1.cell 0, r1.cell 1, r3.cell 0, r2.cell 0⟩
  have C1 := fits_any f a n c M _ (h.fr hr) hn
  have HM := Lib.hid (h.fr hr)
  have HFL := Lib.hid (hf.fr hr)
  have HR := Lib.hid hr
  have HCA := Lib.hid hca
  have HLn := Lib.hid hl
  clear hf h hr hca
  unfold FlatD.val at C1 ⊢
  by_cases hfit : fitsB f.en M = true
  · rw [hfit] at C1
    have hfl := fits_len hfit
    have HFIT := Lib.hid hfit
    have HEN := Lib.hid (show f.en = n by omega)
    clear hfit hfl hl
    by_cases hi : 0 ≤ i ∧ i < n
    · obtain ⟨h0, h1⟩ := hi
      obtain ⟨k, rfl⟩ := Int.eq_ofNat_of_zero_le h0
      have hkn : k < n := by omega
      have d1 : decide ((k : Int) < 0) = false := by rw [decide_eq_false_iff_not]; omega
      have d2 : decide ((k : Int) ≥ n) = false := by rw [decide_eq_false_iff_not]; omega
      have d3 : decide (k ≥ n) = false := by rw [decide_eq_false_iff_not]; omega
      obtain ⟨b1, o1, rfl, hb1, hc1⟩ := HM.out.2.at_ (by omega)
      have hcx := hc1 k hkn 0 (.bool (M.getD k default).inn) rfl
      simp only [Nat.add_zero] at hcx
      generalize hinn : (M.getD k default).inn = inn at hcx
      have HINN := Lib.hid hinn
      have HCX := Lib.hid hcx
      clear hc1 hinn hb1 hcx
      go_enter Try.func19, Try.ntmps19
      go_wp2_with fail
      refine C1.mono ?_
      rintro e w2 ⟨rfl, hF⟩
      have cx := cell_fr HCX.out hF
      have ca := HCA.out.fr hF
      have F2 := Lib.hid (HR.out.trans hF (by simp))
      have g0 := ca.f0
      have g1 := ca.f1
      have ga := ca.a0
      have gm := ca.m0
      have C3 := has_bars _ _ _ f k (some ⟨b1, o1, none⟩) n c M w2 ca (HM.out.fr hF) HEN.out f.ta f.tn f.tc f.T (HFL.out.fr hF).ties HFL.out.few2
      clear hF ca C1
      cases inn
      · go_wp2_with fail
        go_ret
        exact ⟨ret_bool (by unfold enabB; rw [Int.toNat_natCast, HINN.out]; simp), F2.out⟩
      · go_wp2_with fail
        refine C3.mono ?_
        rintro e w3 ⟨rfl, hF⟩
        go_wp2_with fail
        go_ret
        refine ⟨ret_bool ?_, F2.out.trans hF (by simp)⟩
        unfold enabB
        have hm := HLn.out
        have hk2 : decide (0 ≤ (k : Int) ∧ (k : Int) < M.length) = true := by rw [decide_eq_true_iff]; omega
        rw [HFIT.out, hk2, Int.toNat_natCast, HINN.out]
        simp
    · have hB : enabB f M i = false := by
        unfold enabB
        have hm := HLn.out
        have : decide (0 ≤ i ∧ i < M.length) = false := by rw [decide_eq_false_iff_not]; omega
        rw [this]
        simp
      have HBB := Lib.hid hB
      clear hB
      by_cases h0 : i < 0
      · have d1 : decide (i < 0) = true := by simpa using h0
        go_enter Try.func19, Try.ntmps19
        go_wp2_with fail
        refine C1.mono ?_
        rintro e w2 ⟨rfl, hF⟩
        have ca := HCA.out.fr hF
        have g0 := ca.f0
        have g1 := ca.f1
        have ga := ca.a0
        have gm := ca.m0
        clear ca
        go_wp2_with fail
        go_ret
        exact ⟨ret_bool HBB.out.symm, HR.out.trans hF (by simp)⟩
      · have d1 : decide (i < 0) = false := by simpa using h0
        have d2 : decide (i ≥ n) = true := by rw [decide_eq_true_iff]; omega
        go_enter Try.func19, Try.ntmps19
        go_wp2_with fail
        refine C1.mono ?_
        rintro e w2 ⟨rfl, hF⟩
        have ca := HCA.out.fr hF
        have g0 := ca.f0
        have g1 := ca.f1
        have ga := ca.a0
        have gm := ca.m0
        clear ca
        go_wp2_with fail
        go_ret
        exact ⟨ret_bool HBB.out.symm, HR.out.trans hF (by simp)⟩
  · have hfit : fitsB f.en M = false := by simpa using hfit
    rw [hfit] at C1
    have HFIT := Lib.hid hfit
    clear hfit hl
    go_enter Try.func19, Try.ntmps19
    go_wp2_with fail
    refine C1.mono ?_
    rintro e w2 ⟨rfl, hF⟩
    go_wp2_with fail
    go_ret
    exact ⟨ret_bool (by unfold enabB; rw [HFIT.out]; simp), HR.out.trans hF (by simp)⟩
end Go.Proofs.Ytclkahggfdnpgaa

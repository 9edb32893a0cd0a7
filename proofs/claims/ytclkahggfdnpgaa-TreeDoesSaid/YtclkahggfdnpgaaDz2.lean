/- Parts of the proof: Mk3, Mk4, Mk5, Mk6, Mk7. (Merged by pack.py.) -/
import Derived.Test.YtclkahggfdnpgaaDz1
import Derived.Laws.CopyRow
set_option linter.unusedVariables false
set_option linter.unusedSimpArgs false
namespace Go.Proofs.Ytclkahggfdnpgaa
open Go.RowKit
theorem agg57 (w : World) : (isAgg 57).run Try.prog w = .ok true w := by kernel_rfl
theorem size57 : (Try.prog.info? 57).map (·.size) = some 4 := by kernel_rfl
theorem zero57 : (Try.prog.info? 57).map (fun i => (i.size, i.zero.map (·.cells.size))) = some (4, some 4) := by kernel_rfl
theorem index_bars (bf ba bm : Nat) (f : FlatD) (at' : Int) (a : Option Addr) (n c : Nat) (M : List MarkD) (w : World) (hc : Caught w bf ba bm f at' a n c) (h : MarksAt w a n M) (hen : f.en = n) (ta : Option Addr) (tn tc : Nat) (T : List TieD) (hT : TiesAt w ta tn T) (hn : tn ≤ 100000) :
    Calls Try.prog 85 #[.slice ta tn tc, .func (.func 64) #[] #[.pointer (some ⟨bf, 0, none⟩), .pointer (some ⟨ba, 0, none⟩), .pointer (some ⟨bm, 0, none⟩)]] w fun e w' => ∃ r : Int, e = .returned (.int .i64 r) ∧ decide (r ≥ 0) = T.any (fun t => t.bars f.en at' M) ∧ Fr [] w w' := by
  obtain ⟨hl, hR⟩ := hT
  have R := Lib.hid hR
  have HL := Lib.hid hl
  have HC0 := Lib.hid hc
  have HM0 := Lib.hid h
  have HEN := Lib.hid hen
  clear hR hl hc h hen
  go_enter Try.func85, Try.ntmps85
  go_wp2_with fail
  go_loopg [8] tn (fun k i wr => ∃ j : Nat, k = tn - j ∧ j ≤ tn ∧ i = .int .i64 j ∧ (T.take j).any (fun t => t.bars f.en at' M) = false ∧ Fr [] w wr)
  case atStart => exact ⟨0, rfl, by omega, rfl, by simp, Fr.refl _ _⟩
  case round =>
    obtain ⟨j, rfl, hj, rfl, hp, hF⟩ := hrel
    have P := Lib.hid hp
    have F := Lib.hid hF
    clear hp hF
    by_cases hjn : j < tn
    · have hd : decide (j < tn) = true := by rw [decide_eq_true_iff]; omega
      obtain ⟨b1, o1, rfl, hb1, hc1⟩ := (R.out.fr F.out).at_ (by omega)
      have hcx := hc1 j hjn
      have ht := take_succD T j (by rw [HL.out]; exact hjn)
      generalize T.getD j default = x at hcx ht
      have hc' : ∀ k v, ([.int .i64 x.kind, .int .i64 x.src, .int .i64 x.dst, .int .i64 x.time] : List Value)[k]? = some v → wr.cell? ⟨b1, o1 + j * 4 + k, none⟩ = some v := hcx
      have HC := Lib.hid hc'
      have HT := Lib.hid ht
      have C1 := barf_any bf ba bm f at' a n c M x wr (HC0.out.fr F.out) (HM0.out.fr F.out) HEN.out
      unfold TieD.val at C1
      clear hcx hc' hc1 ht
      go_wp2_with ((with_reducible refine wpList_load_at rfl 57 (.tmp 14) rfl agg57 4 size57 b1 (o1 + j * 4) [.int .i64 x.kind, .int .i64 x.src, .int .i64 x.dst, .int .i64 x.time] rfl HC.out ?_ ?_); exact rfl)
      refine C1.mono ?_
      rintro e w2 ⟨rfl, hF2⟩
      have F2 := Lib.hid (F.out.trans hF2 (by simp))
      clear hF2 C1
      by_cases hx : x.bars f.en at' M = true
      · rw [hx]
        go_wp2_with fail
        go_ret
        refine ⟨j, rfl, ?_, F2.out⟩
        have hm : T.any (fun t => t.bars f.en at' M) = true := by
          rw [← List.take_append_drop (j + 1) T, HT.out, List.any_append, List.any_append]
          simp [hx]
        rw [hm, decide_eq_true_iff]
        omega
      · have hx : x.bars f.en at' M = false := by simpa using hx
        rw [hx]
        go_wp2_with fail
        go_roundg (tn - (j + 1))
        case measure => omega
        case rel => exact ⟨j + 1, rfl, by omega, rfl, by rw [HT.out, List.any_append, P.out]; simp [hx], F2.out⟩
    · have hd : decide (j < tn) = false := by rw [decide_eq_false_iff_not]; omega
      have hfull : T.take j = T := List.take_of_length_le (by rw [HL.out]; omega)
      have hp := P.out
      rw [hfull] at hp
      have HP := Lib.hid hp
      clear hfull hp
      go_wp2_with fail
      go_ret
      exact ⟨-1, rfl, by rw [HP.out]; decide, F.out⟩
theorem has_bars (bf ba bm : Nat) (f : FlatD) (at' : Int) (a : Option Addr) (n c : Nat) (M : List MarkD) (w : World) (hc : Caught w bf ba bm f at' a n c) (h : MarksAt w a n M) (hen : f.en = n) (ta : Option Addr) (tn tc : Nat) (T : List TieD) (hT : TiesAt w ta tn T) (hn : tn ≤ 100000) :
    Calls Try.prog 63 #[.slice ta tn tc, .func (.func 64) #[] #[.pointer (some ⟨bf, 0, none⟩), .pointer (some ⟨ba, 0, none⟩), .pointer (some ⟨bm, 0, none⟩)]] w fun e w' => e = .returned (.bool (T.any (fun t => t.bars f.en at' M))) ∧ Fr [] w w' := by
  have C1 := index_bars bf ba bm f at' a n c M w hc h hen ta tn tc T hT hn
  clear h hc hT hen
  go_enter Try.func63, Try.ntmps63
  go_wp2_with fail
  refine C1.mono ?_
  rintro e w2 ⟨r, rfl, hr, hF⟩
  go_wp2_with fail
  go_ret
  exact ⟨rfl, hF⟩
def enabB (f : FlatD) (M : List MarkD) (i : Int) : Bool := fitsB f.en M && decide (0 ≤ i ∧ i < M.length) && (M.getD i.toNat default).inn && !f.T.any (fun t => t.bars f.en i M)
theorem fits_len {k : Nat} {M : List MarkD} (h : fitsB k M = true) : M.length = k := by
  unfold fitsB at h
  simp at h
  exact h.1
set_option maxHeartbeats 400000 in
theorem enab_any (f : FlatD) (a : Option Addr) (n c : Nat) (M : List MarkD) (i : Int) (w : World) (hf : FlatAt w f) (h : MarksAt w a n M) (hn : n ≤ 100000) :
    Calls Try.prog 19 #[f.val, .slice a n c, .int .i64 i] w fun e w' => e = .returned (.bool (enabB f M i)) ∧ Fr [] w w' := by
  have hl := h.1
  have hr := (((Fr.refl [] w).alloc (.cells #[.slice f.ea f.en f.ec, .slice f.ta f.tn f.tc] 25)).alloc (.cells #[.slice a n c] 26)).alloc (.cells #[.int .i64 i] 3)
  have hca : Caught (((w.alloc (.cells #[.slice f.ea f.en f.ec, .slice f.ta f.tn f.tc] 25)).alloc (.cells #[.slice a n c] 26)).alloc (.cells #[.int .i64 i] 3)) w.heap.size (w.heap.size + 2) (w.heap.size + 1) f i a n c := by
    have r1 := ((Row.new w [.slice f.ea f.en f.ec, .slice f.ta f.tn f.tc] 25).alloc (.cells #[.slice a n c] 26)).alloc (.cells #[.int .i64 i] 3)
    have r2 := (Row.new (w.alloc (.cells #[.slice f.ea f.en f.ec, .slice f.ta f.tn f.tc] 25)) [.slice a n c] 26).alloc (.cells #[.int .i64 i] 3)
    have r3 := Row.new ((w.alloc (.cells #[.slice f.ea f.en f.ec, .slice f.ta f.tn f.tc] 25)).alloc (.cells #[.slice a n c] 26)) [.int .i64 i] 3
    have e1 : (w.alloc (.cells #[.slice f.ea f.en f.ec, .slice f.ta f.tn f.tc] 25)).heap.size = w.heap.size + 1 := by simp
    have e2 : ((w.alloc (.cells #[.slice f.ea f.en f.ec, .slice f.ta f.tn f.tc] 25)).alloc (.cells #[.slice a n c] 26)).heap.size = w.heap.size + 2 := by simp
    rw [e1] at r2
    rw [e2] at r3
    exact ⟨r1.cell 0, r1.cell 1, r3.cell 0, r2.cell 0⟩
  have C1 := fits_any f a n c M _ (h.fr hr) hn
  have HM := Lib.hid (h.fr hr)
  have HFL := Lib.hid (hf.fr hr)
  have HR := Lib.hid hr
  have HCA := Lib.hid hca
  have HLn := Lib.hid hl
  clear hf h hr hca
  unfold FlatD.val at C1 ⊢
  by_cases hfit : fitsB f.en M = true
  · rw [hfit] at C1
    have hfl := fits_len hfit
    have HFIT := Lib.hid hfit
    have HEN := Lib.hid (show f.en = n by omega)
    clear hfit hfl hl
    by_cases hi : 0 ≤ i ∧ i < n
    · obtain ⟨h0, h1⟩ := hi
      obtain ⟨k, rfl⟩ := Int.eq_ofNat_of_zero_le h0
      have hkn : k < n := by omega
      have d1 : decide ((k : Int) < 0) = false := by rw [decide_eq_false_iff_not]; omega
      have d2 : decide ((k : Int) ≥ n) = false := by rw [decide_eq_false_iff_not]; omega
      have d3 : decide (k ≥ n) = false := by rw [decide_eq_false_iff_not]; omega
      obtain ⟨b1, o1, rfl, hb1, hc1⟩ := HM.out.2.at_ (by omega)
      have hcx := hc1 k hkn 0 (.bool (M.getD k default).inn) rfl
      simp only [Nat.add_zero] at hcx
      generalize hinn : (M.getD k default).inn = inn at hcx
      have HINN := Lib.hid hinn
      have HCX := Lib.hid hcx
      clear hc1 hinn hb1 hcx
      go_enter Try.func19, Try.ntmps19
      go_wp2_with fail
      refine C1.mono ?_
      rintro e w2 ⟨rfl, hF⟩
      have cx := cell_fr HCX.out hF
      have ca := HCA.out.fr hF
      have F2 := Lib.hid (HR.out.trans hF (by simp))
      have g0 := ca.f0
      have g1 := ca.f1
      have ga := ca.a0
      have gm := ca.m0
      have C3 := has_bars _ _ _ f k (some ⟨b1, o1, none⟩) n c M w2 ca (HM.out.fr hF) HEN.out f.ta f.tn f.tc f.T (HFL.out.fr hF).ties HFL.out.few2
      clear hF ca C1
      cases inn
      · go_wp2_with fail
        go_ret
        exact ⟨ret_bool (by unfold enabB; rw [Int.toNat_natCast, HINN.out]; simp), F2.out⟩
      · go_wp2_with fail
        refine C3.mono ?_
        rintro e w3 ⟨rfl, hF⟩
        go_wp2_with fail
        go_ret
        refine ⟨ret_bool ?_, F2.out.trans hF (by simp)⟩
        unfold enabB
        have hm := HLn.out
        have hk2 : decide (0 ≤ (k : Int) ∧ (k : Int) < M.length) = true := by rw [decide_eq_true_iff]; omega
        rw [HFIT.out, hk2, Int.toNat_natCast, HINN.out]
        simp
    · have hB : enabB f M i = false := by
        unfold enabB
        have hm := HLn.out
        have : decide (0 ≤ i ∧ i < M.length) = false := by rw [decide_eq_false_iff_not]; omega
        rw [this]
        simp
      have HBB := Lib.hid hB
      clear hB
      by_cases h0 : i < 0
      · have d1 : decide (i < 0) = true := by simpa using h0
        go_enter Try.func19, Try.ntmps19
        go_wp2_with fail
        refine C1.mono ?_
        rintro e w2 ⟨rfl, hF⟩
        have ca := HCA.out.fr hF
        have g0 := ca.f0
        have g1 := ca.f1
        have ga := ca.a0
        have gm := ca.m0
        clear ca
        go_wp2_with fail
        go_ret
        exact ⟨ret_bool HBB.out.symm, HR.out.trans hF (by simp)⟩
      · have d1 : decide (i < 0) = false := by simpa using h0
        have d2 : decide (i ≥ n) = true := by rw [decide_eq_true_iff]; omega
        go_enter Try.func19, Try.ntmps19
        go_wp2_with fail
        refine C1.mono ?_
        rintro e w2 ⟨rfl, hF⟩
        have ca := HCA.out.fr hF
        have g0 := ca.f0
        have g1 := ca.f1
        have ga := ca.a0
        have gm := ca.m0
        clear ca
        go_wp2_with fail
        go_ret
        exact ⟨ret_bool HBB.out.symm, HR.out.trans hF (by simp)⟩
  · have hfit : fitsB f.en M = false := by simpa using hfit
    rw [hfit] at C1
    have HFIT := Lib.hid hfit
    clear hfit hl
    go_enter Try.func19, Try.ntmps19
    go_wp2_with fail
    refine C1.mono ?_
    rintro e w2 ⟨rfl, hF⟩
    go_wp2_with fail
    go_ret
    exact ⟨ret_bool (by unfold enabB; rw [HFIT.out]; simp), HR.out.trans hF (by simp)⟩
end Go.Proofs.Ytclkahggfdnpgaa
set_option linter.unusedVariables false
set_option linter.unusedSimpArgs false
namespace Go.Proofs.Ytclkahggfdnpgaa
open Go.RowKit
def slackF (n : Int) (x : MarkD) : Int := if x.pend then (if n < x.due then n else x.due) else n
def slackI (k : Nat) (M : List MarkD) : Int := if fitsB k M then M.foldl slackF 1048576 else -1
theorem foldl_succ (M : List MarkD) (j : Nat) (h : j < M.length) (n : Int) : (M.take (j + 1)).foldl slackF n = slackF ((M.take j).foldl slackF n) (M.getD j default) := by
  rw [take_succD M j h, List.foldl_append]
  rfl
theorem slack_case {s r : Int} {x : MarkD} (hi : x.inn = true) (h0 : x.due ≥ 0) (hr : r = if s < x.due then s else x.due) : Value.int .i64 r = .int .i64 (slackF s x) := by
  rw [hr]
  unfold slackF MarkD.pend
  rw [hi, decide_eq_true h0]
  rfl
theorem ret_int {a b : Int} (h : a = b) : Ending.returned (.int .i64 a) = Ending.returned (.int .i64 b) := by rw [h]
set_option maxHeartbeats 400000 in
theorem slack_any (f : FlatD) (a : Option Addr) (n c : Nat) (M : List MarkD) (w : World) (h : MarksAt w a n M) (hn : n ≤ 100000) :
    Calls Try.prog 22 #[f.val, .slice a n c] w fun e w' => e = .returned (.int .i64 (slackI f.en M)) ∧ Fr [] w w' := by
  have hl := h.1
  have hr := (Fr.refl [] w).alloc (.cells #[.slice f.ea f.en f.ec, .slice f.ta f.tn f.tc] 25)
  have h1 := h.fr hr
  have C1 := fits_any f a n c M _ h1 hn
  have HM := Lib.hid h1
  have HR := Lib.hid hr
  have HL := Lib.hid hl
  clear h hr h1 hl
  unfold FlatD.val at C1 ⊢
  by_cases hfit : fitsB f.en M = true
  · rw [hfit] at C1
    have HFIT := Lib.hid hfit
    clear hfit
    go_enter Try.func22, Try.ntmps22
    go_wp2_with fail
    refine C1.mono ?_
    rintro e w2 ⟨rfl, hF⟩
    have F2 := Lib.hid (HR.out.trans hF (by simp))
    have M2 := Lib.hid (HM.out.fr hF)
    clear hF
    go_wp2_with fail
    go_loopg [5, 14] n (fun k s i wr => ∃ (j : Nat), k = n - j ∧ j ≤ n ∧ i = .int .i64 j ∧ s = .int .i64 ((M.take j).foldl slackF 1048576) ∧ Fr [] w2 wr)
    case atStart => exact ⟨0, rfl, by omega, rfl, rfl, Fr.refl _ _⟩
    case round =>
      obtain ⟨j, rfl, hj, rfl, rfl, hF⟩ := hrel
      have F := Lib.hid hF
      clear hF
      by_cases hjn : j < n
      · have hd : decide (j < n) = true := by rw [decide_eq_true_iff]; omega
        obtain ⟨b1, o1, rfl, hb1, hc1⟩ := (M2.out.fr F.out).2.at_ (by omega)
        have hcx := hc1 j hjn
        have ht := foldl_succ M j (by rw [HL.out]; exact hjn) 1048576
        generalize M.getD j default = x at hcx ht
        have hc' : ∀ k v, ([.bool x.inn, .int .i64 x.age, .int .i64 x.due] : List Value)[k]? = some v → wr.cell? ⟨b1, o1 + j * 3 + k, none⟩ = some v := hcx
        have HC := Lib.hid hc'
        have HT := Lib.hid ht
        clear hcx hc' hc1 ht
        generalize (M.take j).foldl slackF 1048576 = s at HT ⊢
        go_wp2_with (first | ((with_reducible refine wpList_load_at rfl 52 (.tmp 16) rfl agg52 3 size52 b1 (o1 + j * 3) [.bool x.inn, .int .i64 x.age, .int .i64 x.due] rfl HC.out ?_ ?_); exact rfl) | ((with_reducible refine wpList_var_agg rfl rfl 52 (.tmp 7) (.tmp 17) rfl rfl 3 zero52 [.bool x.inn, .int .i64 x.age, .int .i64 x.due] rfl ?_ ?_ ?_ ?_); (intro u hu; simp at hu; rcases hu with rfl | rfl | rfl <;> rfl); exact rfl; exact rfl))
        intro w3 hr3 hs3 hf3
        have F3 := Lib.hid (F.out.trans hf3 (by simp))
        have q0 : w3.cell? ⟨wr.heap.size, 0, none⟩ = some (.bool x.inn) := hr3.cell 0
        have q2 : w3.cell? ⟨wr.heap.size, 2, none⟩ = some (.int .i64 x.due) := hr3.cell 2
        clear hr3 hs3 hf3
        cases hi : x.inn
        · rw [hi] at q0
          have HI := Lib.hid hi
          clear hi
          go_wp2_with fail
          go_roundg (n - (j + 1))
          case measure => omega
          case rel => exact ⟨j + 1, rfl, by omega, rfl, by rw [HT.out]; simp [slackF, MarkD.pend, HI.out], F3.out⟩
        · rw [hi] at q0
          have HI := Lib.hid hi
          clear hi
          by_cases hdu : x.due ≥ 0
          · have d2 : decide (x.due ≥ 0) = true := by simpa using hdu
            go_wp2_with fail
            all_goals
              go_roundg (n - (j + 1))
              case measure => omega
              case rel => exact ⟨j + 1, rfl, by omega, rfl, by rw [HT.out]; exact slack_case HI.out hdu (by split <;> omega), F3.out⟩
          · have d2 : decide (x.due ≥ 0) = false := by simpa using hdu
            go_wp2_with fail
            go_roundg (n - (j + 1))
            case measure => omega
            case rel => exact ⟨j + 1, rfl, by omega, rfl, by rw [HT.out]; unfold slackF MarkD.pend; rw [d2]; simp, F3.out⟩
      · have hd : decide (j < n) = false := by rw [decide_eq_false_iff_not]; omega
        have hfull : M.take j = M := List.take_of_length_le (by rw [HL.out]; omega)
        rw [hfull]
        clear hfull
        go_wp2_with fail
        go_ret
        exact ⟨ret_int (by unfold slackI; rw [if_pos HFIT.out]), F2.out.trans F.out (by simp)⟩
  · have hfit : fitsB f.en M = false := by simpa using hfit
    rw [hfit] at C1
    have HFIT := Lib.hid hfit
    clear hfit
    go_enter Try.func22, Try.ntmps22
    go_wp2_with fail
    refine C1.mono ?_
    rintro e w2 ⟨rfl, hF⟩
    go_wp2_with fail
    go_ret
    exact ⟨ret_int (by unfold slackI; rw [HFIT.out]; rfl), HR.out.trans hF (by simp)⟩
end Go.Proofs.Ytclkahggfdnpgaa
set_option linter.unusedVariables false
set_option linter.unusedSimpArgs false
namespace Go.Proofs.Ytclkahggfdnpgaa
open Go.RowKit
def mcells : List MarkD → List Value
  | [] => []
  | x :: M => .bool x.inn :: .int .i64 x.age :: .int .i64 x.due :: mcells M
theorem mcells_length (M : List MarkD) : (mcells M).length = M.length * 3 := by
  induction M with
  | nil => rfl
  | cons x M ih => simp [mcells, ih]; omega
theorem mcells_one (M : List MarkD) : ∀ v ∈ mcells M, v.oneCell' = true := by
  induction M with
  | nil => simp [mcells]
  | cons x M ih =>
    intro v hv
    simp only [mcells, List.mem_cons] at hv
    rcases hv with rfl | rfl | rfl | hv
    · rfl
    · rfl
    · rfl
    · exact ih v hv
theorem mcells_at (M : List MarkD) : ∀ (i r : Nat), i < M.length → r < 3 → (mcells M)[i * 3 + r]? = (M.getD i default).cells[r]? := by
  induction M with
  | nil => intro i r h; simp at h
  | cons x M ih =>
    intro i r hi hr
    cases i with
    | zero =>
      match r, hr with
      | 0, _ => rfl
      | 1, _ => rfl
      | 2, _ => rfl
    | succ i =>
      have := ih i r (by simpa using hi) hr
      rw [show (i + 1) * 3 + r = (i * 3 + r) + 3 by omega]
      exact this
theorem mcells_set (M : List MarkD) : ∀ (i : Nat), i < M.length → ∀ v : Value,
    (∀ b : Bool, v = .bool b → (mcells M).set (i * 3) v = mcells (M.set i { (M.getD i default) with inn := b })) ∧
    (∀ n : Int, v = .int .i64 n → (mcells M).set (i * 3 + 1) v = mcells (M.set i { (M.getD i default) with age := n })) ∧
    (∀ n : Int, v = .int .i64 n → (mcells M).set (i * 3 + 2) v = mcells (M.set i { (M.getD i default) with due := n })) := by
  induction M with
  | nil => intro i h; simp at h
  | cons x M ih =>
    intro i hi v
    cases i with
    | zero => exact ⟨fun b hb => by subst hb; rfl, fun n hn => by subst hn; rfl, fun n hn => by subst hn; rfl⟩
    | succ i =>
      obtain ⟨h1, h2, h3⟩ := ih i (by simpa using hi) v
      refine ⟨fun b hb => ?_, fun n hn => ?_, fun n hn => ?_⟩
      · have := h1 b hb
        rw [show (i + 1) * 3 = (i * 3) + 1 + 1 + 1 by omega]
        simp only [mcells, List.set_cons_succ, this]
        rfl
      · have := h2 n hn
        rw [show (i + 1) * 3 + 1 = (i * 3 + 1) + 1 + 1 + 1 by omega]
        simp only [mcells, List.set_cons_succ, this]
        rfl
      · have := h3 n hn
        rw [show (i + 1) * 3 + 2 = (i * 3 + 2) + 1 + 1 + 1 by omega]
        simp only [mcells, List.set_cons_succ, this]
        rfl
theorem marks_of_row {w : World} {g : Nat} {M : List MarkD} {C : List Value} (h : Row w g (mcells M ++ C) 52) (n : Nat) (hn : M.length = n) : MarksAt w (some ⟨g, 0, none⟩) n M := by
  refine ⟨hn, ⟨fun h0 => ⟨g, 0, rfl, h.lt, fun i hi j v hj => ?_⟩⟩⟩
  have hj3 : j < 3 := by
    have := (List.getElem?_eq_some_iff.1 hj).1
    exact this
  rw [h.cell, Nat.zero_add, List.getElem?_append_left (by rw [mcells_length]; omega), mcells_at M i j (by omega) hj3]
  exact hj
theorem src_of_marks {w : World} {b o n : Nat} {M : List MarkD} (h : MarksAt w (some ⟨b, o, none⟩) n M) : ∀ j v, (mcells M)[j]? = some v → w.cell? ((⟨b, o, none⟩ : Addr).add j) = some v := by
  intro j v hj
  have hjl := (List.getElem?_eq_some_iff.1 hj).1
  rw [mcells_length] at hjl
  have hl := h.1
  obtain ⟨b', o', he, hb, hc⟩ := h.2.at_ (by omega)
  injection he with he
  injection he with h1 h2
  subst h1 h2
  have h3 := hc (j / 3) (by omega) (j % 3) v (by
    rw [← mcells_at M (j / 3) (j % 3) (by omega) (Nat.mod_lt _ (by omega)), show j / 3 * 3 + j % 3 = j by omega]
    exact hj)
  rw [Addr_add]
  rw [show o + j / 3 * 3 + j % 3 = o + j by omega] at h3
  exact h3
theorem run_copy_wide {P : Program} (w : World) (dT sT ty elem : TypeId) (g o dLen dCap : Nat) (a : Addr) (sLen sCap k : Nat) (cur : Array Value) (t : TypeId) (cs : List Value)
    (hu : P.underlying dT = some (.slice elem)) (hs : (P.info? elem).map (·.size) = some k)
    (hg : w.heap[g]? = some (.cells cur t (0, 0))) (hn : cs.length = Nat.min sLen dLen * k)
    (hsrc : ∀ j v, cs[j]? = some v → w.cell? (a.add j) = some v) (hfit : o + cs.length ≤ cur.size) (h1 : ∀ v ∈ cs, v.oneCell' = true) :
    (Builtin.copy_ #[dT, sT] ty #[.slice (some ⟨g, o, none⟩) dLen dCap, .slice (some a) sLen sCap]).run P w =
      .ok (goInt (Nat.min sLen dLen)) (w.setRow g (cur.toList.take o ++ cs ++ cur.toList.drop (o + cs.length)).toArray) := by
  have hl := run_loadCells_list (P := P) w a cs hsrc
  have hst := run_storeCells_at P g o t cs 0 cur w hg (by simpa using hfit) h1
  cases hq : P.info? elem with
  | none => simp [hq] at hs
  | some i =>
    have hi : i.size = k := by simpa [hq] using hs
    simp [Builtin.copy_, run_underlying hu, Builtin.lenOf, Builtin.firstCells, sizeOf, typeInfo, hq, hi, ← hn, hl, hst]
theorem info52 : (Try.prog.info? 52).map (fun i => (i.size, i.bytes, i.zero.map (fun z => (z.cells.size, z.cells.toList.all Value.oneCell')))) = some (3, 24, some (3, true)) := by kernel_rfl
theorem madeCells_size (z : Array Value) (n : Nat) : (madeCells z n).size = n := by simp [madeCells]
def CopyOf (M : List MarkD) (n : Nat) (w : World) (e : Ending) (w' : World) : Prop := ∃ g, e = .returned (.slice (some ⟨g, 0, none⟩) n n) ∧ w.heap.size ≤ g ∧ Row w' g (mcells M) 52 ∧ Fr [] w w'
theorem copied_any (a : Option Addr) (n c : Nat) (M : List MarkD) (w : World) (h : MarksAt w a n M) (hn : n ≤ 100000) :
    Calls Try.prog 71 #[.slice a n c] w (CopyOf M n w) := by
  have hl := h.1
  obtain ⟨i, hi⟩ : ∃ i, Try.prog.info? 52 = some i := by
    cases hq : Try.prog.info? 52 with
    | none => have := info52; simp [hq] at this
    | some i => exact ⟨i, rfl⟩
  have hinf := info52
  rw [hi] at hinf
  simp only [Option.map_some, Option.some.injEq, Prod.mk.injEq] at hinf
  obtain ⟨hs, hby, hz⟩ := hinf
  obtain ⟨z, hzz⟩ : ∃ z, i.zero = some z := by
    cases hq : i.zero with
    | none => rw [hq] at hz; simp at hz
    | some z => exact ⟨z, rfl⟩
  have hmk := run_make (P := Try.prog) w 26 52 i z Try.underlying26 hi hzz .i64 .i64 n n (by omega) (by omega) (by rw [hby]; omega) (by omega)
  rw [hs, Int.toNat_natCast] at hmk
  have hC : (madeCells z.cells (n * 3)).size = n * 3 := madeCells_size _ _
  generalize madeCells z.cells (n * 3) = C at hmk hC
  have hmk2 : (Instr.makeSlice 26 (.int .i64 n) (.int .i64 n)).run Try.prog w = .ok (.slice (some ⟨w.heap.size, 0, none⟩) n n) (w.alloc (.cells C 52)) := hmk
  have hrow : (w.alloc (.cells C 52)).heap[w.heap.size]? = some (.cells C 52 (0, 0)) := heap_alloc_new w _
  have hml := mcells_length M
  have hsz : (Try.prog.info? 52).map (·.size) = some 3 := size52
  have hmin : Nat.min n n = n := Nat.min_self n
  have hcp : ∃ w2, (Builtin.copy_ #[26, 26] 3 #[.slice (some ⟨w.heap.size, 0, none⟩) n n, .slice a n c]).run Try.prog (w.alloc (.cells C 52)) = .ok (goInt n) w2 ∧ Row w2 w.heap.size (mcells M) 52 ∧ Fr [] w w2 := by
    by_cases h0 : n = 0
    · subst h0
      have hM : M = [] := List.eq_nil_of_length_eq_zero hl
      have hCe : C = #[] := Array.eq_empty_of_size_eq_zero (by omega)
      subst hM hCe
      refine ⟨w.alloc (.cells #[] 52), ?_, Row.new w [] 52, (Fr.refl _ _).alloc _⟩
      cases a with
      | none => simp [Builtin.copy_, run_underlying Try.underlying26, Builtin.lenOf, Builtin.firstCells, sizeOf, typeInfo, hi, hs, loadCells, storeCells, goInt]
      | some ad =>
        have hl0 := run_loadCells_list (P := Try.prog) (w.alloc (.cells #[] 52)) ad [] (by simp)
        rw [List.length_nil] at hl0
        simp [Builtin.copy_, run_underlying Try.underlying26, Builtin.lenOf, Builtin.firstCells, sizeOf, typeInfo, hi, hs, hl0, storeCells, goInt]
    · obtain ⟨b, o, rfl, hb, hc⟩ := (h.fr ((Fr.refl _ w).alloc (.cells C 52))).2.at_ (by omega)
      have hsrc := src_of_marks (h.fr ((Fr.refl _ w).alloc (.cells C 52)))
      have hr := run_copy_wide (P := Try.prog) (w.alloc (.cells C 52)) 26 26 3 52 w.heap.size 0 n n ⟨b, o, none⟩ n c 3 C 52 (mcells M) Try.underlying26 hsz hrow (by rw [hmin, hml, hl]) hsrc (by omega) (mcells_one M)
      rw [hmin] at hr
      refine ⟨_, hr, ?_, ((Fr.refl _ _).alloc _).setRow (by simp) _⟩
      have hd : C.toList.drop (0 + (mcells M).length) = [] := List.drop_eq_nil_of_le (by rw [Array.length_toList]; omega)
      rw [hd, List.take_zero, List.nil_append, List.append_nil]
      have hrw : Row (w.alloc (.cells C 52)) w.heap.size C.toList 52 := by simpa using Row.new w C.toList 52
      exact hrw.setRow _
  obtain ⟨w2, hcp, hR, hF⟩ := hcp
  have HR := Lib.hid hR
  have HF := Lib.hid hF
  clear hR hF hmk hrow hml hsz hmin hi hs hby hz hzz hl h hC
  go_enter Try.func71, Try.ntmps71
  go_wp2_with fail
  go_ret
  exact ⟨w.heap.size, rfl, Nat.le_refl _, HR.out, HF.out⟩
end Go.Proofs.Ytclkahggfdnpgaa
set_option linter.unusedVariables false
set_option linter.unusedSimpArgs false
namespace Go.Proofs.Ytclkahggfdnpgaa
open Go.RowKit
def tickA (x : MarkD) : Int := if x.age ≥ 0 then (if x.age + 1 < 65536 then x.age + 1 else 65536) else x.age
def tickU (x : MarkD) : Int := if x.inn = true ∧ x.due > 0 ∧ x.due < 1048576 then x.due - 1 else x.due
def tickM (x : MarkD) : MarkD := { x with age := tickA x, due := tickU x }
theorem getD_set_same (N : List MarkD) (i : Nat) (x : MarkD) (h : i < N.length) : (N.set i x).getD i default = x := by
  rw [List.getD_eq_getElem?_getD, List.getElem?_set_self h]; rfl
theorem mset_a (N : List MarkD) (i : Nat) (x : MarkD) (h : i < N.length) (hx : N.getD i default = x) (a : Int) : (mcells N).set (i * 3 + 1) (.int .i64 a) = mcells (N.set i { x with age := a }) := by
  have := (mcells_set N i h (.int .i64 a)).2.1 a rfl
  rw [hx] at this
  exact this
theorem mset_d (N : List MarkD) (i : Nat) (x : MarkD) (h : i < N.length) (hx : N.getD i default = x) (a : Int) : (mcells N).set (i * 3 + 2) (.int .i64 a) = mcells (N.set i { x with due := a }) := by
  have := (mcells_set N i h (.int .i64 a)).2.2 a rfl
  rw [hx] at this
  exact this
theorem mset_i (N : List MarkD) (i : Nat) (x : MarkD) (h : i < N.length) (hx : N.getD i default = x) (b : Bool) : (mcells N).set (i * 3) (.bool b) = mcells (N.set i { x with inn := b }) := by
  have := (mcells_set N i h (.bool b)).1 b rfl
  rw [hx] at this
  exact this
theorem mset_ad (N : List MarkD) (i : Nat) (x : MarkD) (h : i < N.length) (hx : N.getD i default = x) (a d : Int) : ((mcells N).set (i * 3 + 1) (.int .i64 a)).set (i * 3 + 2) (.int .i64 d) = mcells (N.set i { x with age := a, due := d }) := by
  rw [mset_a N i x h hx, mset_d _ i { x with age := a } (by simpa using h) (getD_set_same _ _ _ h), List.set_set]
theorem mset_n (N : List MarkD) (i : Nat) (x : MarkD) (h : i < N.length) (hx : N.getD i default = x) : mcells N = mcells (N.set i x) := by
  have : N.set i x = N := by
    have h2 := getD_at N i h
    rw [hx] at h2
    obtain ⟨_, h3⟩ := List.getElem?_eq_some_iff.1 h2
    rw [← h3, List.set_getElem_self]
  rw [this]
/-- A list whose first j are changed. -/
def upto (g : MarkD → MarkD) (M : List MarkD) (j : Nat) : List MarkD := (M.take j).map g ++ M.drop j
theorem upto_length (g : MarkD → MarkD) (M : List MarkD) (j : Nat) : (upto g M j).length = M.length := by
  unfold upto
  rw [List.length_append, List.length_map, ← List.length_append, List.take_append_drop]
theorem upto_at (g : MarkD → MarkD) (M : List MarkD) (j : Nat) (h : j < M.length) : (upto g M j).getD j default = M.getD j default := by
  unfold upto
  have hl : ((M.take j).map g).length = j := by rw [List.length_map, List.length_take]; omega
  rw [List.getD_eq_getElem?_getD, List.getD_eq_getElem?_getD, List.getElem?_append_right (by omega), hl, List.getElem?_drop]
  simp
theorem upto_succ (g : MarkD → MarkD) (M : List MarkD) (j : Nat) (h : j < M.length) : (upto g M j).set j (g (M.getD j default)) = upto g M (j + 1) := by
  unfold upto
  have hl : ((M.take j).map g).length = j := by rw [List.length_map, List.length_take]; omega
  rw [List.set_append, if_neg (by omega), hl, Nat.sub_self, take_succD M j h, List.map_append, List.append_assoc]
  congr 1
  have h2 : M.drop j = M.getD j default :: M.drop (j + 1) := by
    have h3 := getD_at M j h
    obtain ⟨h4, h5⟩ := List.getElem?_eq_some_iff.1 h3
    rw [← h5]
    exact List.drop_eq_getElem_cons h4
  rw [h2]
  rfl
theorem upto_full (g : MarkD → MarkD) (M : List MarkD) (j : Nat) (h : M.length ≤ j) : upto g M j = M.map g := by
  unfold upto
  rw [List.take_of_length_le h, List.drop_eq_nil_of_le h, List.append_nil]
theorem fits_not {k : Nat} {M : List MarkD} (h : fitsB k M = true) : ∀ x ∈ M, x.bad = false := by
  unfold fitsB at h
  simp at h
  exact h.2
theorem not_bad {x : MarkD} (h : x.bad = false) : -1 ≤ x.age ∧ x.age ≤ 65536 ∧ -1 ≤ x.due ∧ x.due ≤ 1048576 := by
  unfold MarkD.bad withinB at h
  simp at h
  omega
theorem getD_mem (M : List MarkD) (j : Nat) (h : j < M.length) : M.getD j default ∈ M := List.mem_of_getElem? (getD_at M j h)
theorem slack_fits {k : Nat} {M : List MarkD} (h : slackI k M ≠ -1) : fitsB k M = true := by
  unfold slackI at h
  by_cases hf : fitsB k M = true
  · exact hf
  · rw [if_neg hf] at h
    exact absurd rfl h
theorem tick_no1 (f : FlatD) (a : Option Addr) (n c : Nat) (M : List MarkD) (w : World) (h : MarksAt w a n M) (hn : n ≤ 100000) (hs : slackI f.en M = -1) :
    Calls Try.prog 31 #[f.val, .slice a n c] w fun e w' => e = .returned (.tuple #[.slice none 0 0, .int .i64 1]) ∧ Fr [] w w' := by
  have hr := (Fr.refl [] w).alloc (.cells #[.slice f.ea f.en f.ec, .slice f.ta f.tn f.tc] 25)
  have C1 := slack_any f a n c M _ (h.fr hr) hn
  have HR := Lib.hid hr
  rw [hs] at C1
  clear h hr hs
  unfold FlatD.val at C1 ⊢
  go_enter Try.func31, Try.ntmps31
  go_wp2_with fail
  refine C1.mono ?_
  rintro e w2 ⟨rfl, hF⟩
  go_wp2_with fail
  go_ret2
  exact ⟨rfl, HR.out.trans hF (by simp)⟩
theorem tick_no0 (f : FlatD) (a : Option Addr) (n c : Nat) (M : List MarkD) (w : World) (h : MarksAt w a n M) (hn : n ≤ 100000) (hs : slackI f.en M = 0) :
    Calls Try.prog 31 #[f.val, .slice a n c] w fun e w' => e = .returned (.tuple #[.slice none 0 0, .int .i64 13]) ∧ Fr [] w w' := by
  have hr := (Fr.refl [] w).alloc (.cells #[.slice f.ea f.en f.ec, .slice f.ta f.tn f.tc] 25)
  have C1 := slack_any f a n c M _ (h.fr hr) hn
  have HR := Lib.hid hr
  rw [hs] at C1
  clear h hr hs
  unfold FlatD.val at C1 ⊢
  go_enter Try.func31, Try.ntmps31
  go_wp2_with fail
  refine C1.mono ?_
  rintro e w2 ⟨rfl, hF⟩
  go_wp2_with fail
  go_ret2
  exact ⟨rfl, HR.out.trans hF (by simp)⟩
section
variable {wr : World} {g j : Nat} {N : List MarkD} {x : MarkD} {A D : Int}
theorem row_ad (hR : Row wr g (mcells N) 52) (h : j < N.length) (hx : N.getD j default = x) (hA : A = tickA x) (hD : D = tickU x) :
    Row ((wr.setCell ⟨g, j * 3 + 1, none⟩ (.int .i64 A)).setCell ⟨g, j * 3 + 2, none⟩ (.int .i64 D)) g (mcells (N.set j (tickM x))) 52 := by
  have h1 := (hR.setCell (j * 3 + 1) (.int .i64 A)).setCell (j * 3 + 2) (.int .i64 D)
  rw [mset_ad N j x h hx, hA, hD] at h1
  rw [hA, hD]
  exact h1
theorem row_a (hR : Row wr g (mcells N) 52) (h : j < N.length) (hx : N.getD j default = x) (hA : A = tickA x) (hD : x.due = tickU x) :
    Row (wr.setCell ⟨g, j * 3 + 1, none⟩ (.int .i64 A)) g (mcells (N.set j (tickM x))) 52 := by
  have h1 := (hR.setCell (j * 3 + 1) (.int .i64 A))
  rw [mset_a N j x h hx, hA] at h1
  rw [hA]
  unfold tickM
  rw [← hD]
  exact h1
theorem row_d (hR : Row wr g (mcells N) 52) (h : j < N.length) (hx : N.getD j default = x) (hA : x.age = tickA x) (hD : D = tickU x) :
    Row (wr.setCell ⟨g, j * 3 + 2, none⟩ (.int .i64 D)) g (mcells (N.set j (tickM x))) 52 := by
  have h1 := (hR.setCell (j * 3 + 2) (.int .i64 D))
  rw [mset_d N j x h hx, hD] at h1
  rw [hD]
  unfold tickM
  rw [← hA]
  exact h1
theorem row_n (hR : Row wr g (mcells N) 52) (h : j < N.length) (hx : N.getD j default = x) (hA : x.age = tickA x) (hD : x.due = tickU x) :
    Row wr g (mcells (N.set j (tickM x))) 52 := by
  rw [mset_n N j x h hx] at hR
  unfold tickM
  rw [← hA, ← hD]
  exact hR
end
/-- A new marking. -/
def NewM (M : List MarkD) (n : Nat) (w : World) (e : Ending) (w' : World) : Prop := ∃ g, e = .returned (.tuple #[.slice (some ⟨g, 0, none⟩) n n, .int .i64 0]) ∧ w.heap.size ≤ g ∧ Row w' g (mcells M) 52 ∧ Fr [] w w'
set_option maxHeartbeats 1000000 in
theorem tick_ok (f : FlatD) (a : Option Addr) (n c : Nat) (M : List MarkD) (w : World) (h : MarksAt w a n M) (hn : n ≤ 100000) (hs1 : slackI f.en M ≠ -1) (hs0 : slackI f.en M ≠ 0) :
    Calls Try.prog 31 #[f.val, .slice a n c] w (NewM (M.map tickM) n w) := by
  have hr := (Fr.refl [] w).alloc (.cells #[.slice f.ea f.en f.ec, .slice f.ta f.tn f.tc] 25)
  have C1 := slack_any f a n c M _ (h.fr hr) hn
  have HR := Lib.hid hr
  have HM := Lib.hid (h.fr hr)
  have HL := Lib.hid h.1
  have HNB := Lib.hid (fits_not (slack_fits hs1))
  have d1 : (slackI f.en M == -1) = false := by simpa using hs1
  have d0 : (slackI f.en M == 0) = false := by simpa using hs0
  clear h hr hs1 hs0
  generalize slackI f.en M = sl at C1 d1 d0
  unfold FlatD.val at C1 ⊢
  go_enter Try.func31, Try.ntmps31
  go_wp2_with fail
  refine C1.mono ?_
  rintro e w2 ⟨rfl, hF⟩
  have C2 := copied_any a n c M w2 (HM.out.fr hF) hn
  have F2 := Lib.hid (HR.out.trans hF (by simp))
  clear hF C1
  go_wp2_with fail
  refine C2.mono ?_
  rintro e w3 ⟨g, rfl, hg, hR3, hF3⟩
  have R3 := Lib.hid hR3
  have F3 := Lib.hid (F2.out.trans hF3 (by simp))
  have hgw : w.heap.size ≤ g := Nat.le_trans F2.out.size hg
  clear C2 hg hR3 hF3
  go_wp2_with fail
  go_loopg [20] n (fun k i wr => ∃ (j : Nat), k = n - j ∧ j ≤ n ∧ i = .int .i64 j ∧ Row wr g (mcells (upto tickM M j)) 52 ∧ Fr [g] w3 wr)
  case atStart => exact ⟨0, rfl, by omega, rfl, R3.out, Fr.refl _ _⟩
  case round =>
    obtain ⟨j, rfl, hj, rfl, hR, hF⟩ := hrel
    have R := Lib.hid hR
    have F := Lib.hid hF
    by_cases hjn : j < n
    · have hd : decide (j < n) = true := by rw [decide_eq_true_iff]; omega
      have hjl : j < M.length := by rw [HL.out]; exact hjn
      have hux := upto_at tickM M j hjl
      have hsu := upto_succ tickM M j hjl
      have hjl2 : j < (upto tickM M j).length := by rw [upto_length]; exact hjl
      have hnb := not_bad (HNB.out _ (getD_mem M j hjl))
      have x0 := hR.cell (j * 3 + 0)
      have x1 := hR.cell (j * 3 + 1)
      have x2 := hR.cell (j * 3 + 2)
      rw [mcells_at _ j 0 hjl2 (by omega), hux] at x0
      rw [mcells_at _ j 1 hjl2 (by omega), hux] at x1
      rw [mcells_at _ j 2 hjl2 (by omega), hux] at x2
      generalize M.getD j default = x at hux hsu hnb x0 x1 x2
      generalize upto tickM M j = N at hux hsu hjl2 R
      have y0 : wr.cell? ⟨g, j * 3, none⟩ = some (.bool x.inn) := x0
      have y1 : wr.cell? ⟨g, j * 3 + 1, none⟩ = some (.int .i64 x.age) := x1
      have y2 : wr.cell? ⟨g, j * 3 + 2, none⟩ = some (.int .i64 x.due) := x2
      have f1 : wr.frozen? ⟨g, j * 3 + 1, none⟩ = false := hR.frozen _
      have f2 : wr.frozen? ⟨g, j * 3 + 2, none⟩ = false := hR.frozen _
      have HSU := Lib.hid hsu
      have HUX := Lib.hid hux
      have HJ2 := Lib.hid hjl2
      obtain ⟨b1, b2, b3, b4⟩ := hnb
      clear hR hF x0 x1 x2 hsu hux hjl2 hjl
      by_cases ha : x.age ≥ 0
      · have da : decide (x.age ≥ 0) = true := by simpa using ha
        have ta : tickA x = (if x.age + 1 < 65536 then x.age + 1 else 65536) := by unfold tickA; rw [if_pos ha]
        have TA := Lib.hid ta
        clear ta
        cases hi : x.inn
        · rw [hi] at y0
          have tu : x.due = tickU x := by unfold tickU; rw [hi]; simp
          have TU := Lib.hid tu
          clear tu hi
          go_wp2_with fail
          all_goals
            go_roundg (n - (j + 1))
            case measure => omega
            case rel => exact ⟨j + 1, rfl, by omega, rfl, by rw [← HSU.out]; exact row_a R.out HJ2.out HUX.out (by rw [TA.out]; first | rfl | (split <;> omega)) TU.out, F.out.setCell (by simp) _⟩
        · rw [hi] at y0
          by_cases hp : x.due > 0
          · have dp : decide (x.due > 0) = true := by simpa using hp
            by_cases hm : x.due < 1048576
            · have dm : decide (x.due < 1048576) = true := by simpa using hm
              have tu : x.due - 1 = tickU x := by unfold tickU; rw [if_pos ⟨hi, hp, hm⟩]
              have TU := Lib.hid tu
              clear tu hi
              go_wp2_with fail
              all_goals
                go_roundg (n - (j + 1))
                case measure => omega
                case rel => exact ⟨j + 1, rfl, by omega, rfl, by rw [← HSU.out]; exact row_ad R.out HJ2.out HUX.out (by rw [TA.out]; first | rfl | (split <;> omega)) TU.out, (F.out.setCell (by simp) _).setCell (by simp) _⟩
            · have dm : decide (x.due < 1048576) = false := by simpa using hm
              have tu : x.due = tickU x := by unfold tickU; rw [if_neg (fun h => hm h.2.2)]
              have TU := Lib.hid tu
              clear tu hi
              go_wp2_with fail
              all_goals
                go_roundg (n - (j + 1))
                case measure => omega
                case rel => exact ⟨j + 1, rfl, by omega, rfl, by rw [← HSU.out]; exact row_a R.out HJ2.out HUX.out (by rw [TA.out]; first | rfl | (split <;> omega)) TU.out, F.out.setCell (by simp) _⟩
          · have dp : decide (x.due > 0) = false := by simpa using hp
            have tu : x.due = tickU x := by unfold tickU; rw [if_neg (fun h => hp h.2.1)]
            have TU := Lib.hid tu
            clear tu hi
            go_wp2_with fail
            all_goals
              go_roundg (n - (j + 1))
              case measure => omega
              case rel => exact ⟨j + 1, rfl, by omega, rfl, by rw [← HSU.out]; exact row_a R.out HJ2.out HUX.out (by rw [TA.out]; first | rfl | (split <;> omega)) TU.out, F.out.setCell (by simp) _⟩
      · have da : decide (x.age ≥ 0) = false := by simpa using ha
        have ta : tickA x = x.age := by unfold tickA; rw [if_neg ha]
        have TA := Lib.hid ta
        clear ta
        cases hi : x.inn
        · rw [hi] at y0
          have tu : x.due = tickU x := by unfold tickU; rw [hi]; simp
          have TU := Lib.hid tu
          clear tu hi
          go_wp2_with fail
          all_goals
            go_roundg (n - (j + 1))
            case measure => omega
            case rel => exact ⟨j + 1, rfl, by omega, rfl, by rw [← HSU.out]; exact row_n R.out HJ2.out HUX.out TA.out.symm TU.out, F.out⟩
        · rw [hi] at y0
          by_cases hp : x.due > 0
          · have dp : decide (x.due > 0) = true := by simpa using hp
            by_cases hm : x.due < 1048576
            · have dm : decide (x.due < 1048576) = true := by simpa using hm
              have tu : x.due - 1 = tickU x := by unfold tickU; rw [if_pos ⟨hi, hp, hm⟩]
              have TU := Lib.hid tu
              clear tu hi
              go_wp2_with fail
              all_goals
                go_roundg (n - (j + 1))
                case measure => omega
                case rel => exact ⟨j + 1, rfl, by omega, rfl, by rw [← HSU.out]; exact row_d R.out HJ2.out HUX.out TA.out.symm TU.out, F.out.setCell (by simp) _⟩
            · have dm : decide (x.due < 1048576) = false := by simpa using hm
              have tu : x.due = tickU x := by unfold tickU; rw [if_neg (fun h => hm h.2.2)]
              have TU := Lib.hid tu
              clear tu hi
              go_wp2_with fail
              all_goals
                go_roundg (n - (j + 1))
                case measure => omega
                case rel => exact ⟨j + 1, rfl, by omega, rfl, by rw [← HSU.out]; exact row_n R.out HJ2.out HUX.out TA.out.symm TU.out, F.out⟩
          · have dp : decide (x.due > 0) = false := by simpa using hp
            have tu : x.due = tickU x := by unfold tickU; rw [if_neg (fun h => hp h.2.1)]
            have TU := Lib.hid tu
            clear tu hi
            go_wp2_with fail
            all_goals
              go_roundg (n - (j + 1))
              case measure => omega
              case rel => exact ⟨j + 1, rfl, by omega, rfl, by rw [← HSU.out]; exact row_n R.out HJ2.out HUX.out TA.out.symm TU.out, F.out⟩
    · have hd : decide (j < n) = false := by rw [decide_eq_false_iff_not]; omega
      have hfull := upto_full tickM M j (by rw [HL.out]; omega)
      rw [hfull] at R
      clear hfull hR hF
      go_wp2_with fail
      go_ret2
      exact ⟨g, rfl, hgw, R.out, F3.out.trans F.out (by simp; omega)⟩
end Go.Proofs.Ytclkahggfdnpgaa
set_option linter.unusedVariables false
set_option linter.unusedSimpArgs false
namespace Go.Proofs.Ytclkahggfdnpgaa
open Go.RowKit
theorem agg104 (w : World) : (isAgg 104).run Try.prog w = .ok true w := by kernel_rfl
theorem size104 : (Try.prog.info? 104).map (·.size) = some 6 := by kernel_rfl
theorem zero104 : (Try.prog.info? 104).map (fun i => (i.size, i.zero.map (·.cells.size))) = some (6, some 6) := by kernel_rfl
theorem infoM : (Try.prog.info? 52).map (fun i => (i.zero, i.size, i.bytes)) = some (some (.agg #[.bool false, .int .i64 0, .int .i64 0]), 3, 24) := by kernel_rfl
def clampU (n : Int) : Int := if n < -1 then -1 else if n < 1048576 then n else 1048576
def startM (e : EvD) : MarkD := { inn := e.inn, age := if e.done then 0 else -1, due := clampU e.due }
theorem own_fr {w w' : World} {base : Nat} {e : TypeId} {size n : Nat} {v : Value} {xs : List Value} (h : w.ownsRow base e size v n xs) (f : Fr [] w w') : w'.ownsRow base e size v n xs := by
  refine ⟨h.1, ?_⟩
  rcases h.2 with ⟨rfl, rfl⟩ | ⟨g, cap, cur, rfl, hb, hg, r⟩
  · exact .inl ⟨rfl, rfl⟩
  · exact .inr ⟨g, cap, cur, rfl, hb, (f.block g ((Array.getElem?_eq_some_iff.1 hg).1) (by simp)).trans hg, r⟩
theorem own_slice {w : World} {base : Nat} {e : TypeId} {size n : Nat} {v : Value} {xs : List Value} (h : w.ownsRow base e size v n xs) : ∃ a c, v = .slice a n c := by
  rcases h.2 with ⟨rfl, rfl⟩ | ⟨g, cap, cur, rfl, _⟩
  · exact ⟨_, _, rfl⟩
  · exact ⟨_, _, rfl⟩
theorem marks_of_own {w : World} {base : Nat} {a : Option Addr} {n c : Nat} {M : List MarkD} (h : w.ownsRow base 52 3 (.slice a n c) n (mcells M)) : MarksAt w a n M := by
  have hl : M.length = n := by have h1 := h.1; rw [mcells_length] at h1; omega
  rcases h.2 with ⟨hv, h0⟩ | ⟨g, cap, cur, hv, hb, hg, hn, hcm, hcs, ht⟩
  · injection hv with h1 h2 h3
    exact ⟨hl, ⟨fun h => absurd h (by omega)⟩⟩
  · injection hv with h1 h2 h3
    subst h1
    have hrow : Row w g (mcells M ++ cur.toList.drop (n * 3)) 52 := by
      show w.heap[g]? = _
      rw [← ht, List.take_append_drop]
      exact hg
    exact marks_of_row hrow n hl
theorem mcells_snoc (M : List MarkD) (x : MarkD) : mcells (M ++ [x]) = mcells M ++ x.cells := by
  induction M with
  | nil => rfl
  | cons y M ih => simp [mcells, ih]
end Go.Proofs.Ytclkahggfdnpgaa

/- Parts of the proof: Rk1, Rk3, Rk2, Rk4. (Merged by pack.py.) -/
import Derived.Test.YtclkahggfdnpgaaDz16
import Derived.Deep.RegionHeldLaw
import Derived.Deep.RegionLaw
import Derived.Deep.AppendLies
set_option linter.unusedVariables false
set_option linter.unusedSimpArgs false
namespace Go.Proofs.Ytclkahggfdnpgaa
open Go.RowKit
theorem any_take {α : Type} [Inhabited α] (M : List α) (g : α → Bool) (j : Nat) (h : j < M.length) : (M.take (j + 1)).any g = ((M.take j).any g || g (M.getD j default)) := by
  rw [take_succD M j h, List.any_append]
  simp
theorem any_at {α : Type} [Inhabited α] (M : List α) (g : α → Bool) (j : Nat) (h : j < M.length) (hg : g (M.getD j default) = true) : M.any g = true := by
  rw [List.any_eq_true]
  exact ⟨_, List.mem_of_getElem? (getD_at M j h), hg⟩
theorem fitsB_bad {k : Nat} {M : List MarkD} (j : Nat) (h : j < M.length) (hb : (M.getD j default).bad = true) : fitsB k M = false := by
  unfold fitsB
  rw [any_at M _ j h hb]
  simp
theorem fitsB_none {k : Nat} {M : List MarkD} (h : (M.take M.length).any MarkD.bad = false) : fitsB k M = decide (M.length = k) := by
  rw [List.take_length] at h
  unfold fitsB
  rw [h]
  simp
theorem bad_of {x : MarkD} (h : x.age < -1 ∨ x.age > 65536 ∨ x.due < -1 ∨ x.due > 1048576) : x.bad = true := by
  cases hb : x.bad
  · have := (bad_iff x).1 hb
    omega
  · rfl
set_option maxHeartbeats 1000000 in
theorem rfits_any (f : FlatD) (a : Option Addr) (n c : Nat) (M : List MarkD) (w : World) (h : MarksAt w a n M) (hn : n ≤ 100000) (hen : f.en ≤ 100000) :
    Calls Try.prog 21 #[f.val, .slice a n c] w fun e w' => e = .returned (.bool (fitsB f.en M)) ∧ Fr [] w w' := by
  obtain ⟨hl, hR⟩ := h
  have hr := (Fr.refl [] w).alloc (.cells #[.slice f.ea f.en f.ec, .slice f.ta f.tn f.tc] 31)
  have rb := Row.new w [.slice f.ea f.en f.ec, .slice f.ta f.tn f.tc] 31
  have R := Lib.hid (hR.fr hr)
  have HL := Lib.hid hl
  have HR := Lib.hid hr
  have x0 : (w.alloc (.cells #[.slice f.ea f.en f.ec, .slice f.ta f.tn f.tc] 31)).cell? ⟨w.heap.size, 0, none⟩ = some (.slice f.ea f.en f.ec) := rb.cell 0
  clear hR hl hr rb
  unfold FlatD.val
  go_enter Try.func21, Try.ntmps21
  go_wp2_with fail
  generalize hW : w.alloc (.cells #[.slice f.ea f.en f.ec, .slice f.ta f.tn f.tc] 31) = W0 at R HR x0 ⊢
  clear hW
  go_loopg [5] n (fun k i wr => ∃ (j : Nat), k = n - j ∧ j ≤ n ∧ i = .int .i64 j ∧ (M.take j).any MarkD.bad = false ∧ wr = W0)
  case atStart => exact ⟨0, rfl, by omega, rfl, rfl, rfl⟩
  case round =>
    obtain ⟨j, rfl, hj, rfl, hg, rfl⟩ := hrel
    have HG := Lib.hid hg
    clear hg
    by_cases hjn : j < n
    · have hd : decide (j < n) = true := decide_eq_true hjn
      obtain ⟨b1, o1, rfl, _, hc⟩ := R.out.at_ (by omega)
      have y1 : wr.cell? ⟨b1, o1 + j * 3 + 1, none⟩ = some (.int .i64 (M.getD j default).age) := hc j hjn 1 _ rfl
      have y2 : wr.cell? ⟨b1, o1 + j * 3 + 2, none⟩ = some (.int .i64 (M.getD j default).due) := hc j hjn 2 _ rfl
      have hbd := @bad_of (M.getD j default)
      have hfb := @fitsB_bad f.en M j (by rw [HL.out]; exact hjn)
      have htk := any_take M MarkD.bad j (by rw [HL.out]; exact hjn)
      have hbi := bad_iff (M.getD j default)
      generalize M.getD j default = x at y1 y2 hbd hfb htk hbi
      have HBD := Lib.hid hbd
      have HFB := Lib.hid hfb
      have HTK := Lib.hid htk
      have HBI := Lib.hid hbi
      clear hc hbd hfb htk hbi
      by_cases h1 : x.age < -1
      · have d1 : decide (x.age < -1) = true := decide_eq_true h1
        have HF := Lib.hid (HFB.out (HBD.out (.inl h1)))
        clear h1
        go_wp2_with fail
        go_ret
        exact ⟨ret_bool HF.out.symm, HR.out⟩
      have d1 : decide (x.age < -1) = false := decide_eq_false h1
      by_cases h2 : x.age > 65536
      · have d2 : decide (x.age > 65536) = true := decide_eq_true h2
        have HF := Lib.hid (HFB.out (HBD.out (.inr (.inl h2))))
        clear h1 h2
        go_wp2_with fail
        go_ret
        exact ⟨ret_bool HF.out.symm, HR.out⟩
      have d2 : decide (x.age > 65536) = false := decide_eq_false h2
      by_cases h3 : x.due < -1
      · have d3 : decide (x.due < -1) = true := decide_eq_true h3
        have HF := Lib.hid (HFB.out (HBD.out (.inr (.inr (.inl h3)))))
        clear h1 h2 h3
        go_wp2_with fail
        go_ret
        exact ⟨ret_bool HF.out.symm, HR.out⟩
      have d3 : decide (x.due < -1) = false := decide_eq_false h3
      by_cases h4 : x.due > 1048576
      · have d4 : decide (x.due > 1048576) = true := decide_eq_true h4
        have HF := Lib.hid (HFB.out (HBD.out (.inr (.inr (.inr h4)))))
        clear h1 h2 h3 h4
        go_wp2_with fail
        go_ret
        exact ⟨ret_bool HF.out.symm, HR.out⟩
      have d4 : decide (x.due > 1048576) = false := decide_eq_false h4
      have HN := Lib.hid (HBI.out.2 ⟨by omega, by omega, by omega, by omega⟩)
      clear h1 h2 h3 h4
      go_wp2_with fail
      go_roundg (n - (j + 1))
      case measure => omega
      case rel => exact ⟨j + 1, rfl, by omega, rfl, by rw [HTK.out, HG.out, HN.out]; rfl, rfl⟩
    · have hd : decide (j < n) = false := decide_eq_false hjn
      obtain rfl : n = j := by omega
      have HF := Lib.hid (fitsB_none (k := f.en) (M := M) (by rw [HL.out]; exact HG.out))
      by_cases he : n = f.en
      · have de : ((n : Int) == (f.en : Int)) = true := by rw [beq_iff_eq]; omega
        have HE := Lib.hid he
        clear he
        go_wp2_with fail
        go_ret
        exact ⟨ret_bool (by rw [HF.out, HL.out, decide_eq_true HE.out]), HR.out⟩
      · have de : ((n : Int) == (f.en : Int)) = false := by rw [beq_eq_false_iff_ne]; omega
        have HE := Lib.hid he
        clear he
        go_wp2_with fail
        go_ret
        exact ⟨ret_bool (by rw [HF.out, HL.out, decide_eq_false HE.out]), HR.out⟩
theorem pend_at (x : MarkD) : x.pend = (x.inn && decide (x.due ≥ 0)) := rfl
theorem accB_pend {k : Nat} {M : List MarkD} (j : Nat) (h : j < M.length) (hb : (M.getD j default).pend = true) : accB k M = false := by
  unfold accB
  rw [any_at M _ j h hb]
  simp
theorem accB_none {k : Nat} {M : List MarkD} (h : (M.take M.length).any MarkD.pend = false) : accB k M = fitsB k M := by
  rw [List.take_length] at h
  unfold accB
  rw [h]
  simp
set_option maxHeartbeats 1000000 in
theorem racc_any (f : FlatD) (a : Option Addr) (n c : Nat) (M : List MarkD) (w : World) (h : MarksAt w a n M) (hn : n ≤ 100000) (hen : f.en ≤ 100000) :
    Calls Try.prog 25 #[f.val, .slice a n c] w fun e w' => e = .returned (.bool (accB f.en M)) ∧ Fr [] w w' := by
  have hr := (Fr.refl [] w).alloc (.cells #[.slice f.ea f.en f.ec, .slice f.ta f.tn f.tc] 31)
  have rb := Row.new w [.slice f.ea f.en f.ec, .slice f.ta f.tn f.tc] 31
  have hM := h.fr hr
  have C1 := rfits_any f a n c M _ hM hn hen
  obtain ⟨hl, hR⟩ := hM
  have R := Lib.hid hR
  have HL := Lib.hid hl
  have HR := Lib.hid hr
  have x0 : (w.alloc (.cells #[.slice f.ea f.en f.ec, .slice f.ta f.tn f.tc] 31)).cell? ⟨w.heap.size, 0, none⟩ = some (.slice f.ea f.en f.ec) := rb.cell 0
  have x1 : (w.alloc (.cells #[.slice f.ea f.en f.ec, .slice f.ta f.tn f.tc] 31)).cell? ⟨w.heap.size, 1, none⟩ = some (.slice f.ta f.tn f.tc) := rb.cell 1
  clear hR hl hr rb h
  unfold FlatD.val at C1 ⊢
  go_enter Try.func25, Try.ntmps25
  go_wp2_with fail
  generalize hW : w.alloc (.cells #[.slice f.ea f.en f.ec, .slice f.ta f.tn f.tc] 31) = W0 at R HR x0 x1 C1 ⊢
  clear hW
  have D1 := Lib.hid C1
  clear C1
  go_loopg [5] n (fun k i wr => ∃ (j : Nat), k = n - j ∧ j ≤ n ∧ i = .int .i64 j ∧ (M.take j).any MarkD.pend = false ∧ wr = W0)
  case atStart => exact ⟨0, rfl, by omega, rfl, rfl, rfl⟩
  case round =>
    obtain ⟨j, rfl, hj, rfl, hg, rfl⟩ := hrel
    have HG := Lib.hid hg
    clear hg
    by_cases hjn : j < n
    · have hd : decide (j < n) = true := decide_eq_true hjn
      obtain ⟨b1, o1, rfl, _, hc⟩ := R.out.at_ (by omega)
      have y0 : wr.cell? ⟨b1, o1 + j * 3, none⟩ = some (.bool (M.getD j default).inn) := hc j hjn 0 _ rfl
      have y2 : wr.cell? ⟨b1, o1 + j * 3 + 2, none⟩ = some (.int .i64 (M.getD j default).due) := hc j hjn 2 _ rfl
      have hfb := @accB_pend f.en M j (by rw [HL.out]; exact hjn)
      have htk := any_take M MarkD.pend j (by rw [HL.out]; exact hjn)
      generalize M.getD j default = x at y0 y2 hfb htk
      have hpe := pend_at x
      have HFB := Lib.hid hfb
      have HTK := Lib.hid htk
      have HPE := Lib.hid hpe
      clear hc hfb htk hpe
      cases hi : x.inn
      · rw [hi] at y0
        have HP := Lib.hid (show x.pend = false by rw [HPE.out, hi]; rfl)
        clear hi
        go_wp2_with fail
        go_roundg (n - (j + 1))
        case measure => omega
        case rel => exact ⟨j + 1, rfl, by omega, rfl, by rw [HTK.out, HG.out, HP.out]; rfl, rfl⟩
      · rw [hi] at y0
        by_cases h0 : x.due ≥ 0
        · have d0 : decide (x.due ≥ 0) = true := decide_eq_true h0
          have HP := Lib.hid (HFB.out (by rw [HPE.out, hi, d0]; rfl))
          clear hi h0
          go_wp2_with fail
          go_ret
          exact ⟨ret_bool HP.out.symm, HR.out⟩
        · have d0 : decide (x.due ≥ 0) = false := decide_eq_false h0
          have HP := Lib.hid (show x.pend = false by rw [HPE.out, hi, d0]; rfl)
          clear hi h0
          go_wp2_with fail
          go_roundg (n - (j + 1))
          case measure => omega
          case rel => exact ⟨j + 1, rfl, by omega, rfl, by rw [HTK.out, HG.out, HP.out]; rfl, rfl⟩
    · have hd : decide (j < n) = false := decide_eq_false hjn
      obtain rfl : n = j := by omega
      have HF := Lib.hid (accB_none (k := f.en) (M := M) (by rw [HL.out]; exact HG.out))
      go_wp2_with fail
      refine D1.out.mono ?_
      rintro e w2 ⟨rfl, hF⟩
      have F2 := Lib.hid (HR.out.trans hF (by simp))
      clear hF
      go_wp2_with fail
      go_ret
      exact ⟨ret_bool HF.out.symm, F2.out⟩
set_option maxHeartbeats 1000000 in
theorem rslack_any (f : FlatD) (a : Option Addr) (n c : Nat) (M : List MarkD) (w : World) (h : MarksAt w a n M) (hn : n ≤ 100000) (hen : f.en ≤ 100000) :
    Calls Try.prog 23 #[f.val, .slice a n c] w fun e w' => e = .returned (.int .i64 (slackI f.en M)) ∧ Fr [] w w' := by
  have hr := (Fr.refl [] w).alloc (.cells #[.slice f.ea f.en f.ec, .slice f.ta f.tn f.tc] 31)
  have rb := Row.new w [.slice f.ea f.en f.ec, .slice f.ta f.tn f.tc] 31
  have hM := h.fr hr
  have C1 := rfits_any f a n c M _ hM hn hen
  obtain ⟨hl, hR⟩ := hM
  have R := Lib.hid hR
  have HL := Lib.hid hl
  have HR := Lib.hid hr
  have x0 : (w.alloc (.cells #[.slice f.ea f.en f.ec, .slice f.ta f.tn f.tc] 31)).cell? ⟨w.heap.size, 0, none⟩ = some (.slice f.ea f.en f.ec) := rb.cell 0
  have x1 : (w.alloc (.cells #[.slice f.ea f.en f.ec, .slice f.ta f.tn f.tc] 31)).cell? ⟨w.heap.size, 1, none⟩ = some (.slice f.ta f.tn f.tc) := rb.cell 1
  clear hR hl hr rb h
  unfold FlatD.val at C1 ⊢
  go_enter Try.func23, Try.ntmps23
  go_wp2_with fail
  refine C1.mono ?_
  rintro e w1 ⟨rfl, hF⟩
  have F1 := Lib.hid (HR.out.trans hF (by simp))
  have R1 := Lib.hid (R.out.fr hF)
  clear hF x0 x1 C1
  cases hfit : fitsB f.en M
  · have HS := Lib.hid (show slackI f.en M = -1 by unfold slackI; rw [hfit]; rfl)
    clear hfit
    go_wp2_with fail
    go_ret
    exact ⟨ret_int HS.out.symm, F1.out⟩
  · have HS := Lib.hid (slack_of_fits hfit)
    clear hfit
    go_wp2_with fail
    go_loopg [5, 6] n (fun k s i wr => ∃ (j : Nat), k = n - j ∧ j ≤ n ∧ i = .int .i64 j ∧ s = .int .i64 ((M.take j).foldl slackF 1048576) ∧ wr = w1)
    case atStart => exact ⟨0, rfl, by omega, rfl, rfl, rfl⟩
    case round =>
      obtain ⟨j, rfl, hj, rfl, rfl, rfl⟩ := hrel
      by_cases hjn : j < n
      · have hd : decide (j < n) = true := decide_eq_true hjn
        obtain ⟨b1, o1, rfl, _, hc⟩ := R1.out.at_ (by omega)
        have y0 : wr.cell? ⟨b1, o1 + j * 3, none⟩ = some (.bool (M.getD j default).inn) := hc j hjn 0 _ rfl
        have y2 : wr.cell? ⟨b1, o1 + j * 3 + 2, none⟩ = some (.int .i64 (M.getD j default).due) := hc j hjn 2 _ rfl
        have hfs := foldl_succ M j (by rw [HL.out]; exact hjn) 1048576
        generalize (M.take j).foldl slackF 1048576 = s at hfs ⊢
        generalize M.getD j default = x at y0 y2 hfs
        have HFS := Lib.hid hfs
        clear hc hfs
        have hpe := pend_at x
        have hsf : slackF s x = if x.pend then (if s < x.due then s else x.due) else s := rfl
        cases hi : x.inn
        · rw [hi] at y0
          have HP := Lib.hid (show slackF s x = s by rw [hsf, hpe, hi]; rfl)
          clear hi hpe hsf
          go_wp2_with fail
          go_roundg (n - (j + 1))
          case measure => omega
          case rel => exact ⟨j + 1, rfl, by omega, rfl, by rw [HFS.out, HP.out], rfl⟩
        · rw [hi] at y0
          by_cases h0 : x.due ≥ 0
          · have d0 : decide (x.due ≥ 0) = true := decide_eq_true h0
            by_cases hlt : x.due < s
            · have d1 : decide (x.due < s) = true := decide_eq_true hlt
              have HP := Lib.hid (show slackF s x = x.due by rw [hsf, hpe, hi, d0]; simp; omega)
              clear hi h0 hlt hpe hsf
              go_wp2_with fail
              go_roundg (n - (j + 1))
              case measure => omega
              case rel => exact ⟨j + 1, rfl, by omega, rfl, by rw [HFS.out, HP.out], rfl⟩
            · have d1 : decide (x.due < s) = false := decide_eq_false hlt
              have HP := Lib.hid (show slackF s x = s by rw [hsf, hpe, hi, d0]; simp; omega)
              clear hi h0 hlt hpe hsf
              go_wp2_with fail
              go_roundg (n - (j + 1))
              case measure => omega
              case rel => exact ⟨j + 1, rfl, by omega, rfl, by rw [HFS.out, HP.out], rfl⟩
          · have d0 : decide (x.due ≥ 0) = false := decide_eq_false h0
            have HP := Lib.hid (show slackF s x = s by rw [hsf, hpe, hi, d0]; rfl)
            clear hi h0 hpe hsf
            go_wp2_with fail
            go_roundg (n - (j + 1))
            case measure => omega
            case rel => exact ⟨j + 1, rfl, by omega, rfl, by rw [HFS.out, HP.out], rfl⟩
      · have hd : decide (j < n) = false := decide_eq_false hjn
        obtain rfl : n = j := by omega
        have ht := List.take_of_length_le (Nat.le_of_eq HL.out)
        have HT := Lib.hid ht
        clear ht
        go_wp2_with fail
        go_ret
        exact ⟨ret_int (by rw [HT.out, HS.out]), F1.out⟩
end Go.Proofs.Ytclkahggfdnpgaa
set_option linter.unusedVariables false
set_option linter.unusedSimpArgs false
namespace Go.Proofs.Ytclkahggfdnpgaa
open Go.RowKit
theorem own_empty (w : World) (e : TypeId) (size : Nat) : (w.alloc (.cells #[] e)).ownsRow w.heap.size e size (.slice (some ⟨w.heap.size, 0, none⟩) 0 0) 0 [] :=
  ⟨by simp, .inr ⟨w.heap.size, 0, #[], rfl, Nat.le_refl _, heap_alloc_new _ _, Nat.le_refl _, by unfold maxLen; omega, by simp, by simp⟩⟩
end Go.Proofs.Ytclkahggfdnpgaa
set_option linter.unusedVariables false
set_option linter.unusedSimpArgs false
namespace Go.Proofs.Ytclkahggfdnpgaa
open Go.RowKit
theorem rsame_any (a b : Option Addr) (n m c d : Nat) (L M : List MarkD) (w : World) (hn : n ≤ 100000) (hm : m ≤ 100000) (hL : MarksAt w a n L) (hM : MarksAt w b m M) :
    Calls Try.prog 26 #[.slice a n c, .slice b m d] w fun e w' => e = .returned (.bool (decide (L = M))) ∧ Fr [] w w' := by
  have hl1 := Lib.hid hL.1
  have hl2 := Lib.hid hM.1
  by_cases he : n = m
  · subst he
    have HL := Lib.hid hL
    have HM := Lib.hid hM
    clear hL hM
    go_enter Try.func26, Try.ntmps26
    go_wp2_with fail
    go_loopg [5] n (fun k i wr => ∃ j : Nat, k = n - j ∧ j ≤ n ∧ i = .int .i64 j ∧ L.take j = M.take j ∧ Fr [] w wr)
    case atStart => exact ⟨0, rfl, by omega, rfl, by simp, Fr.refl _ _⟩
    case round =>
      obtain ⟨j, rfl, hj, rfl, ht, hF⟩ := hrel
      have F := Lib.hid hF
      have TT := Lib.hid ht
      clear ht
      by_cases hjn : j < n
      · have hd : decide (j < n) = true := by rw [decide_eq_true_iff]; omega
        obtain ⟨b1, o1, rfl, hb1, hc1⟩ := (HL.out.fr hF).2.at_ (by omega)
        obtain ⟨b2, o2, rfl, hb2, hc2⟩ := (HM.out.fr hF).2.at_ (by omega)
        have k1 := hc1 j hjn
        have k2 := hc2 j hjn
        have T1 := Lib.hid (take_succD L j (by rw [hl1.out]; exact hjn))
        have T2 := Lib.hid (take_succD M j (by rw [hl2.out]; exact hjn))
        generalize L.getD j default = x at k1 T1
        generalize M.getD j default = y at k2 T2
        have x0 : wr.cell? ⟨b1, o1 + j * 3, none⟩ = some (.bool x.inn) := k1 0 _ rfl
        have x1 : wr.cell? ⟨b1, o1 + j * 3 + 1, none⟩ = some (.int .i64 x.age) := k1 1 _ rfl
        have x2 : wr.cell? ⟨b1, o1 + j * 3 + 2, none⟩ = some (.int .i64 x.due) := k1 2 _ rfl
        have y0 : wr.cell? ⟨b2, o2 + j * 3, none⟩ = some (.bool y.inn) := k2 0 _ rfl
        have y1 : wr.cell? ⟨b2, o2 + j * 3 + 1, none⟩ = some (.int .i64 y.age) := k2 1 _ rfl
        have y2 : wr.cell? ⟨b2, o2 + j * 3 + 2, none⟩ = some (.int .i64 y.due) := k2 2 _ rfl
        clear k1 k2 hc1 hc2 hF
        go_wp2_with fail
        obtain ⟨xi, xa, xd⟩ := x
        obtain ⟨yi, ya, yd⟩ := y
        simp only at x0 x1 x2 y0 y1 y2
        by_cases h1 : xi = yi
        · subst h1
          by_cases h2 : xa = ya
          · subst h2
            by_cases h3 : xd = yd
            · subst h3
              go_region_held_law (fun w' => w'.cell? ⟨b1, o1 + j * 3, none⟩ = some (.bool xi) ∧ w'.cell? ⟨b1, o1 + j * 3 + 1, none⟩ = some (.int .i64 xa) ∧ w'.cell? ⟨b1, o1 + j * 3 + 2, none⟩ = some (.int .i64 xd) ∧ w'.cell? ⟨b2, o2 + j * 3, none⟩ = some (.bool xi) ∧ w'.cell? ⟨b2, o2 + j * 3 + 1, none⟩ = some (.int .i64 xa) ∧ w'.cell? ⟨b2, o2 + j * 3 + 2, none⟩ = some (.int .i64 xd)) (go_keep) (fail)
              all_goals
                go_wp2_with fail
                go_roundg (n - (j + 1))
                case measure => omega
                case rel => exact ⟨j + 1, rfl, by omega, rfl, by rw [T1.out, T2.out, TT.out], F.out.drewN 1⟩
            · skip
              have e3 : (xd == yd) = false := by simpa using h3
              have hLM : ¬ L = M := by
                intro h
                subst h
                have := T1.out.symm.trans T2.out
                simp at this
                omega
              have HLM := Lib.hid hLM
              clear hLM
              go_region_held_law (fun w' => w'.cell? ⟨b1, o1 + j * 3, none⟩ = some (.bool xi) ∧ w'.cell? ⟨b1, o1 + j * 3 + 1, none⟩ = some (.int .i64 xa) ∧ w'.cell? ⟨b1, o1 + j * 3 + 2, none⟩ = some (.int .i64 xd) ∧ w'.cell? ⟨b2, o2 + j * 3, none⟩ = some (.bool xi) ∧ w'.cell? ⟨b2, o2 + j * 3 + 1, none⟩ = some (.int .i64 xa) ∧ w'.cell? ⟨b2, o2 + j * 3 + 2, none⟩ = some (.int .i64 yd)) (go_keep) (fail)
              all_goals
                go_wp2_with fail
                go_ret
                exact ⟨ret_bool (decide_eq_false HLM.out).symm, F.out.drewN 1⟩
          · skip
            have e3 : (xa == ya) = false := by simpa using h2
            have hLM : ¬ L = M := by
              intro h
              subst h
              have := T1.out.symm.trans T2.out
              simp at this
              omega
            have HLM := Lib.hid hLM
            clear hLM
            go_region_held_law (fun w' => w'.cell? ⟨b1, o1 + j * 3, none⟩ = some (.bool xi) ∧ w'.cell? ⟨b1, o1 + j * 3 + 1, none⟩ = some (.int .i64 xa) ∧ w'.cell? ⟨b1, o1 + j * 3 + 2, none⟩ = some (.int .i64 xd) ∧ w'.cell? ⟨b2, o2 + j * 3, none⟩ = some (.bool xi) ∧ w'.cell? ⟨b2, o2 + j * 3 + 1, none⟩ = some (.int .i64 ya) ∧ w'.cell? ⟨b2, o2 + j * 3 + 2, none⟩ = some (.int .i64 yd)) (go_keep) (fail)
            all_goals
              go_wp2_with fail
              go_ret
              exact ⟨ret_bool (decide_eq_false HLM.out).symm, F.out.drewN 1⟩
        · skip
          have e3 : (xi == yi) = false := by simpa using h1
          have hLM : ¬ L = M := by
            intro h
            subst h
            have := T1.out.symm.trans T2.out
            simp at this
            exact h1 this.1
          have HLM := Lib.hid hLM
          clear hLM
          go_region_held_law (fun w' => w'.cell? ⟨b1, o1 + j * 3, none⟩ = some (.bool xi) ∧ w'.cell? ⟨b1, o1 + j * 3 + 1, none⟩ = some (.int .i64 xa) ∧ w'.cell? ⟨b1, o1 + j * 3 + 2, none⟩ = some (.int .i64 xd) ∧ w'.cell? ⟨b2, o2 + j * 3, none⟩ = some (.bool yi) ∧ w'.cell? ⟨b2, o2 + j * 3 + 1, none⟩ = some (.int .i64 ya) ∧ w'.cell? ⟨b2, o2 + j * 3 + 2, none⟩ = some (.int .i64 yd)) (go_keep) (fail)
          all_goals
            go_wp2_with fail
            go_ret
            exact ⟨ret_bool (decide_eq_false HLM.out).symm, F.out.drewN 1⟩
      · have hd : decide (j < n) = false := by rw [decide_eq_false_iff_not]; omega
        have hLM : L = M := by
          have ht := TT.out
          rw [List.take_of_length_le (by rw [hl1.out]; omega), List.take_of_length_le (by rw [hl2.out]; omega)] at ht
          exact ht
        have HLM := Lib.hid hLM
        clear hLM hF
        go_wp2_with fail
        go_ret
        exact ⟨ret_bool (decide_eq_true HLM.out).symm, F.out⟩
  · have hd : ((n : Int) != (m : Int)) = true := by simpa using (by omega : ¬ (n : Int) = m)
    have hLM : ¬ L = M := fun h => he (by rw [← hl1.out, ← hl2.out, h])
    have HLM := Lib.hid hLM
    clear hL hM hLM
    go_enter Try.func26, Try.ntmps26
    go_wp2_with fail
    go_ret
    exact ⟨ret_bool (decide_eq_false HLM.out).symm, Fr.refl _ _⟩
end Go.Proofs.Ytclkahggfdnpgaa
set_option linter.unusedVariables false
set_option linter.unusedSimpArgs false
namespace Go.Proofs.Ytclkahggfdnpgaa
open Go.RowKit
theorem rtwo_any (f : FlatD) (t : TieD) (w : World) : Calls Try.prog 62 #[f.val, t.val] w fun e w' => e = .returned (.bool (t.between f.en)) ∧ Fr [] w w' := by
  have hr := ((Fr.refl [] w).alloc (.cells #[.slice f.ea f.en f.ec, .slice f.ta f.tn f.tc] 31)).alloc (.cells #[.int .i64 t.kind, .int .i64 t.src, .int .i64 t.dst, .int .i64 t.time] 105)
  have HR := Lib.hid hr
  clear hr
  have hb : t.between f.en = decide (0 ≤ t.src ∧ t.src < f.en ∧ 0 ≤ t.dst ∧ t.dst < f.en) := rfl
  rw [hb]
  unfold FlatD.val TieD.val
  by_cases h1 : t.src ≥ 0
  · have d1 : decide (t.src ≥ 0) = true := decide_eq_true h1
    by_cases h2 : t.src < f.en
    · have d2 : decide (t.src < (f.en : Int)) = true := decide_eq_true h2
      by_cases h3 : t.dst ≥ 0
      · have d3 : decide (t.dst ≥ 0) = true := decide_eq_true h3
        by_cases h4 : t.dst < f.en
        · have d4 : decide (t.dst < (f.en : Int)) = true := decide_eq_true h4
          have HB := Lib.hid (decide_eq_true (⟨by omega, h2, by omega, h4⟩ : 0 ≤ t.src ∧ t.src < f.en ∧ 0 ≤ t.dst ∧ t.dst < f.en))
          clear h1 h2 h3 h4 hb
          go_enter Try.func62, Try.ntmps62
          go_wp2_with fail
          go_ret
          exact ⟨ret_bool HB.out.symm, HR.out⟩
        · have d4 : decide (t.dst < (f.en : Int)) = false := decide_eq_false h4
          have HB := Lib.hid (decide_eq_false (fun h => h4 h.2.2.2 : ¬ (0 ≤ t.src ∧ t.src < f.en ∧ 0 ≤ t.dst ∧ t.dst < f.en)))
          clear h1 h2 h3 h4 hb
          go_enter Try.func62, Try.ntmps62
          go_wp2_with fail
          go_ret
          exact ⟨ret_bool HB.out.symm, HR.out⟩
      · have d3 : decide (t.dst ≥ 0) = false := decide_eq_false h3
        have HB := Lib.hid (decide_eq_false (fun h => h3 h.2.2.1 : ¬ (0 ≤ t.src ∧ t.src < f.en ∧ 0 ≤ t.dst ∧ t.dst < f.en)))
        clear h1 h2 h3 hb
        go_enter Try.func62, Try.ntmps62
        go_wp2_with fail
        go_ret
        exact ⟨ret_bool HB.out.symm, HR.out⟩
    · have d2 : decide (t.src < (f.en : Int)) = false := decide_eq_false h2
      have HB := Lib.hid (decide_eq_false (fun h => h2 h.2.1 : ¬ (0 ≤ t.src ∧ t.src < f.en ∧ 0 ≤ t.dst ∧ t.dst < f.en)))
      clear h1 h2 hb
      go_enter Try.func62, Try.ntmps62
      go_wp2_with fail
      go_ret
      exact ⟨ret_bool HB.out.symm, HR.out⟩
  · have d1 : decide (t.src ≥ 0) = false := decide_eq_false h1
    have HB := Lib.hid (decide_eq_false (fun h => h1 h.1 : ¬ (0 ≤ t.src ∧ t.src < f.en ∧ 0 ≤ t.dst ∧ t.dst < f.en)))
    clear h1 hb
    go_enter Try.func62, Try.ntmps62
    go_wp2_with fail
    go_ret
    exact ⟨ret_bool HB.out.symm, HR.out⟩
def tcells : List TieD → List Value
  | [] => []
  | x :: M => .int .i64 x.kind :: .int .i64 x.src :: .int .i64 x.dst :: .int .i64 x.time :: tcells M
theorem tcells_snoc (M : List TieD) (x : TieD) : tcells (M ++ [x]) = tcells M ++ x.cells := by
  induction M with
  | nil => rfl
  | cons y M ih => simp [tcells, ih]
theorem tcells_length (M : List TieD) : (tcells M).length = M.length * 4 := by
  induction M with
  | nil => rfl
  | cons x M ih => simp [tcells, ih]; omega
theorem tcells_at (M : List TieD) : ∀ (i r : Nat), i < M.length → r < 4 → (tcells M)[i * 4 + r]? = (M.getD i default).cells[r]? := by
  induction M with
  | nil => intro i r h; simp at h
  | cons x M ih =>
    intro i r hi hr
    cases i with
    | zero =>
      match r, hr with
      | 0, _ | 1, _ | 2, _ | 3, _ => rfl
    | succ i =>
      have hi' : i < M.length := by simpa using hi
      have e : (i + 1) * 4 + r = (i * 4 + r) + 1 + 1 + 1 + 1 := by omega
      rw [e]
      show (tcells M)[i * 4 + r]? = _
      rw [ih i r hi' hr]
      rfl
theorem ties_of_own {w : World} {base : Nat} {a : Option Addr} {n c : Nat} {M : List TieD} (h : w.ownsRow base 105 4 (.slice a n c) n (tcells M)) : TiesAt w a n M := by
  have hl : M.length = n := by have h1 := h.1; rw [tcells_length] at h1; omega
  rcases h.2 with ⟨hv, h0⟩ | ⟨g, cap, cur, hv, hb, hg, hn, hcm, hcs, ht⟩
  · injection hv with h1 h2 h3
    exact ⟨hl, ⟨fun h => absurd h (by omega)⟩⟩
  · injection hv with h1 h2 h3
    subst h1
    refine ⟨hl, ⟨fun h0 => ⟨g, 0, rfl, (Array.getElem?_eq_some_iff.1 hg).1, fun i hi j v hj => ?_⟩⟩⟩
    have hj4 : j < 4 := (List.getElem?_eq_some_iff.1 hj).1
    rw [cell_of_row w g _ _ _ _ hg, Nat.zero_add]
    have h2 := tcells_at M i j (by omega) hj4
    rw [← ht, List.getElem?_take, if_pos (by omega)] at h2
    rw [← Array.getElem?_toList, h2]
    exact hj
theorem infoT : (Try.prog.info? 105).map (fun i => (i.zero, i.size, i.bytes)) = some (some (.agg #[.int .i64 0, .int .i64 0, .int .i64 0, .int .i64 0]), 4, 32) := by kernel_rfl
theorem agg31 (w : World) : (isAgg 31).run Try.prog w = .ok true w := by kernel_rfl
theorem size31 : (Try.prog.info? 31).map (·.size) = some 2 := by kernel_rfl
theorem results_cell1 {fn : Func} {p : Tmp} {ty : TypeId} (h : fn.results = #[.cell p ty]) (tmps : Array Value) (P : Program) (w : World) {g : Nat} {cs : List Value} (hp : tmps.getD p undef = .pointer (some ⟨g, 0, none⟩))
    (hagg : ∀ w, (isAgg ty).run P w = .ok true w) (hi : (P.info? ty).map (·.size) = some cs.length) (hc : ∀ j v, cs[j]? = some v → w.cell? ⟨g, 0 + j, none⟩ = some v) : (results fn tmps).run P w = .ok (.agg cs.toArray) w := by
  have hl := run_loadVar_at P w ty g 0 cs hagg hc hi
  simp only [results, h]
  have hp' : tmps[p]?.getD undef = .pointer (some ⟨g, 0, none⟩) := by rw [← Array.getD_eq_getD_getElem?]; exact hp
  simp [Sem.run_bind, Result.andThen, hp', asAddr, hl]
theorem own_frR {w w' : World} {base : Nat} {e : TypeId} {size n : Nat} {v : Value} {xs : List Value} {S : List Nat} (h : w.ownsRow base e size v n xs) (f : Fr S w w') (hS : ∀ y ∈ S, y < base) : w'.ownsRow base e size v n xs := by
  refine ⟨h.1, ?_⟩
  rcases h.2 with ⟨rfl, rfl⟩ | ⟨g, cap, cur, rfl, hb, hg, r⟩
  · exact .inl ⟨rfl, rfl⟩
  · exact .inr ⟨g, cap, cur, rfl, hb, (f.block g ((Array.getElem?_eq_some_iff.1 hg).1) (fun hy => by have := hS g hy; omega)).trans hg, r⟩
def OwnedF (f : FlatD) (w : World) (e : Ending) (w' : World) : Prop := ∃ a c, e = .returned (FlatD.val ⟨f.ea, f.en, f.ec, a, f.tn, c, f.E, f.T⟩) ∧ TiesAt w' a f.tn f.T ∧ Fr [] w w' ∧ ∀ g o, a = some ⟨g, o, none⟩ → w.heap.size ≤ g
set_option maxRecDepth 100000 in
set_option maxHeartbeats 1000000 in
theorem own_fresh (f : FlatD) (w : World) (hf : FlatAt w f) : Calls Try.prog 16 #[f.val] w (OwnedF f w) := by
  obtain ⟨i0, hi, hz0, hz1, hz2⟩ := info_parts infoT
  have HI := Lib.hid hi
  have HZ0 := Lib.hid hz0
  have HZ1 := Lib.hid hz1
  have HZ2 := Lib.hid hz2
  clear hi hz0 hz1 hz2
  have HE := Lib.hid hf.ties
  have HLE := Lib.hid hf.ties.1
  have hfew := hf.few2
  clear hf
  obtain ⟨ea, en, ec, ta, tn, tc, E, T⟩ := f
  simp only at HE HLE hfew ⊢
  have hr := (((Fr.refl [] w).alloc (.cells #[.slice ea en ec, .slice ta tn tc] 25)).alloc (.cells #[.slice none 0 0, .slice none 0 0] 31)).alloc (.cells #[.slice ea en ec, .slice none 0 0] 31)
  have e1 : (w.alloc (.cells #[.slice ea en ec, .slice ta tn tc] 25)).heap.size = w.heap.size + 1 := by simp
  have e2 : ((w.alloc (.cells #[.slice ea en ec, .slice ta tn tc] 25)).alloc (.cells #[.slice none 0 0, .slice none 0 0] 31)).heap.size = w.heap.size + 1 + 1 := by simp
  have r1 := ((Row.new w [.slice ea en ec, .slice ta tn tc] 25).alloc (.cells #[.slice none 0 0, .slice none 0 0] 31)).alloc (.cells #[.slice ea en ec, .slice none 0 0] 31)
  have r2 := (Row.new (w.alloc (.cells #[.slice ea en ec, .slice ta tn tc] 25)) [.slice none 0 0, .slice none 0 0] 31).alloc (.cells #[.slice ea en ec, .slice none 0 0] 31)
  have r3 := Row.new ((w.alloc (.cells #[.slice ea en ec, .slice ta tn tc] 25)).alloc (.cells #[.slice none 0 0, .slice none 0 0] 31)) [.slice ea en ec, .slice none 0 0] 31
  rw [e1] at r2
  rw [e2] at r3
  have HR := Lib.hid hr
  have R1 := Lib.hid r1
  have R2 := Lib.hid r2
  have R3 := Lib.hid r3
  have HW := Lib.hid (World.ownsRow_nil (((w.alloc (.cells #[.slice ea en ec, .slice ta tn tc] 25)).alloc (.cells #[.slice none 0 0, .slice none 0 0] 31)).alloc (.cells #[.slice ea en ec, .slice none 0 0] 31)) (w.heap.size + 3) 105 4)
  have HS := Lib.hid (show (((w.alloc (.cells #[.slice ea en ec, .slice ta tn tc] 25)).alloc (.cells #[.slice none 0 0, .slice none 0 0] 31)).alloc (.cells #[.slice ea en ec, .slice none 0 0] 31)).heap.size = w.heap.size + 3 by simp)
  clear hr e1 e2 r1 r2 r3
  unfold FlatD.val
  simp only
  go_enter Try.func16, Try.ntmps16
  go_wp2_with fail
  generalize hW3 : ((w.alloc (.cells #[.slice ea en ec, .slice ta tn tc] 25)).alloc (.cells #[.slice none 0 0, .slice none 0 0] 31)).alloc (.cells #[.slice ea en ec, .slice none 0 0] 31) = W3 at HR R1 R2 R3 HW HS ⊢
  clear hW3
  go_loopg [11] tn (fun k i wr => ∃ (j : Nat) (v : Value), k = tn - j ∧ j ≤ tn ∧ i = .int .i64 j ∧ Row wr (w.heap.size + 1 + 1) [.slice ea en ec, v] 31 ∧ wr.ownsRow (w.heap.size + 3) 105 4 v j (tcells (T.take j)) ∧ Fr [w.heap.size + 1 + 1] W3 wr)
  case atStart => exact ⟨0, .slice none 0 0, rfl, by omega, rfl, R3.out, HW.out, Fr.refl _ _⟩
  case round =>
    obtain ⟨j, v, rfl, hj, rfl, hRow, hO, hF⟩ := hrel
    obtain ⟨a, c, rfl⟩ := own_slice hO
    have hws : w.heap.size + 3 ≤ wr.heap.size := by have := hF.size; have := HS.out; omega
    have O := Lib.hid hO
    have F := Lib.hid hF
    have RO := Lib.hid hRow
    have FW := Lib.hid (HR.out.trans hF (by intro x hx; simp at hx; exact .inr (by omega)))
    have x0 : wr.cell? ⟨w.heap.size, 0, none⟩ = some (.slice ea en ec) := (R1.out.fr hF (by simp; omega)).cell 0
    have x1 : wr.cell? ⟨w.heap.size, 1, none⟩ = some (.slice ta tn tc) := (R1.out.fr hF (by simp; omega)).cell 1
    have z0 : wr.cell? ⟨w.heap.size + 1 + 1, 0, none⟩ = some (.slice ea en ec) := hRow.cell 0
    have z1 : wr.cell? ⟨w.heap.size + 1 + 1, 1, none⟩ = some (.slice a j c) := hRow.cell 1
    have q0 : wr.cell? ⟨w.heap.size + 1, 0, none⟩ = some (.slice none 0 0) := (R2.out.fr hF (by simp)).cell 0
    have q1 : wr.cell? ⟨w.heap.size + 1, 1, none⟩ = some (.slice none 0 0) := (R2.out.fr hF (by simp)).cell 1
    have g0 := (R2.out.fr hF (by simp)).frozen 0
    have g1 := (R2.out.fr hF (by simp)).frozen 1
    clear hO hF hRow
    by_cases hjn : j < tn
    · have hd : decide (j < tn) = true := decide_eq_true hjn
      obtain ⟨b1, o1, rfl, hb1, hc1⟩ := (HE.out.fr FW.out).2.at_ (by omega)
      have hcx := hc1 j hjn
      have ht := take_succD T j (by rw [HLE.out]; exact hjn)
      generalize T.getD j default = x at hcx ht
      have t0 : wr.cell? ⟨b1, o1 + j * 4, none⟩ = some (.int .i64 x.kind) := hcx 0 _ rfl
      have t1 : wr.cell? ⟨b1, o1 + j * 4 + 1, none⟩ = some (.int .i64 x.src) := hcx 1 _ rfl
      have t2 : wr.cell? ⟨b1, o1 + j * 4 + 2, none⟩ = some (.int .i64 x.dst) := hcx 2 _ rfl
      have t3 : wr.cell? ⟨b1, o1 + j * 4 + 3, none⟩ = some (.int .i64 x.time) := hcx 3 _ rfl
      have HT := Lib.hid ht
      clear hcx hc1 ht q0 q1 g0 g1
      have h0j : (0 : Int) ≤ (j : Int) := by omega
      have hjI : (j : Int) < (tn : Int) := by omega
      have z1' : ∀ o, (wr.alloc o).cell? ⟨w.heap.size + 1 + 1, 1, none⟩ = some (.slice a j c) := fun o => by rw [World.cell?_alloc_lt wr o _ (by show w.heap.size + 1 + 1 < wr.heap.size; omega)]; exact z1
      have hO4 : (wr.alloc (.cells #[.int .i64 x.kind, .int .i64 x.src, .int .i64 x.dst, .int .i64 x.time] 105)).drew.ownsRow (w.heap.size + 3) 105 4 (.slice a j c) j (tcells (T.take j)) := own_fr O.out (((Fr.refl [] wr).alloc _).drew)
      have hnew : ∀ i u, ([.int .i64 x.kind, .int .i64 x.src, .int .i64 x.dst, .int .i64 x.time] : List Value)[i]? = some u → (wr.alloc (.cells #[.int .i64 x.kind, .int .i64 x.src, .int .i64 x.dst, .int .i64 x.time] 105)).drew.cell? ((⟨wr.heap.size, 0, none⟩ : Addr).add i) = some u := by
        intro i u hi
        rw [Addr_add, Nat.zero_add]
        exact ((Row.new wr [.int .i64 x.kind, .int .i64 x.src, .int .i64 x.dst, .int .i64 x.time] 105).cell i).trans hi
      have OA := Lib.hid hO4
      have NW := Lib.hid hnew
      have B1 := Lib.hid (show j + 1 ≤ maxLen by unfold maxLen; omega)
      have B2 := Lib.hid (show (j + 1) * 32 ≤ 140737488355328 by omega)
      have B3 := Lib.hid (show w.heap.size + 3 ≤ ((wr.alloc (.cells #[.int .i64 x.kind, .int .i64 x.src, .int .i64 x.dst, .int .i64 x.time] 105)).drew).heap.size by simp; omega)
      have B4 := Lib.hid (show ((wr.alloc (.cells #[.int .i64 x.kind, .int .i64 x.src, .int .i64 x.dst, .int .i64 x.time] 105)).drew).heap.size = wr.heap.size + 1 by simp)
      have ONE := Lib.hid (show ∀ u ∈ ([.int .i64 x.kind, .int .i64 x.src, .int .i64 x.dst, .int .i64 x.time] : List Value), u.oneCell' = true by simp [Value.oneCell'])
      have KF : ∀ w5, ((wr.alloc (.cells #[.int .i64 x.kind, .int .i64 x.src, .int .i64 x.dst, .int .i64 x.time] 105)).drew).grownBy w5 (Value.ownBlock (.slice a j c)) → Row w5 (w.heap.size + 1 + 1) [.slice ea en ec, .slice a j c] 31 ∧ Fr [w.heap.size + 1 + 1] W3 w5 := by
        intro w5 hg
        have hnb : ∀ y, y ∈ (Value.ownBlock (.slice a j c)).toList → w.heap.size + 3 ≤ y := by
          intro y hy
          simp only [Option.mem_toList] at hy
          exact (O.out.lt y hy).1
        have hf4 : Fr ((Value.ownBlock (.slice a j c)).toList) wr w5 := ((((Fr.refl [] wr).alloc _).drew).mono (by simp)).trans (Fr.of_grown hg _ (fun k hk => .inl (by simp [hk]))) (fun y hy => .inl hy)
        exact ⟨RO.out.fr hf4 (fun hy => by have := hnb _ hy; omega), F.out.trans hf4 (fun y hy => .inr (by have := hnb y hy; have := HS.out; omega))⟩
      have KF := Lib.hid KF
      clear hO4 hnew
      go_wp2_with fail
      go_region_law ((refine step_append_lies _ rfl _ _ 29 rfl (w.heap.size + 3) 105 i0 (.agg #[.int .i64 0, .int .i64 0, .int .i64 0, .int .i64 0]) 4 32 Try.underlying29 HI.out HZ0.out HZ1.out HZ2.out rfl (by decide) _ _ _ rfl OA.out ⟨wr.heap.size, 0, none⟩ 1 1 [.int .i64 x.kind, .int .i64 x.src, .int .i64 x.dst, .int .i64 x.time] rfl rfl NW.out ONE.out (by decide) B1.out B2.out B3.out _ B4.out ?_; intro g5 cap5 w5 hown5 hgrow5 hor5 hlt5; have z5 := (KF.out w5 hgrow5).1.cell 1; have y5 := (KF.out w5 hgrow5).1.frozen 1; simp only [List.getElem?_cons_succ, List.getElem?_cons_zero] at z5))
      all_goals
        have HT' := Lib.hid (by rw [HT.out, tcells_snoc] : tcells (T.take (j + 1)) = tcells (T.take j) ++ x.cells)
        have RO5 := Lib.hid ((KF.out w5 hgrow5).1.setCell 1 (.slice (some ⟨g5, 0, none⟩) (j + 1) cap5))
        have F5 := Lib.hid ((KF.out w5 hgrow5).2.setCell (p := ⟨w.heap.size + 1 + 1, 1, none⟩) (.inl (by simp)) (.slice (some ⟨g5, 0, none⟩) (j + 1) cap5))
        have O5 := Lib.hid (own_frR hown5 (((Fr.refl [w.heap.size + 1 + 1] w5).setCell (p := ⟨w.heap.size + 1 + 1, 1, none⟩) (.inl (by simp)) (.slice (some ⟨g5, 0, none⟩) (j + 1) cap5))) (by simp))
        clear hown5 hgrow5 hor5 hlt5 z5 y5
        go_wp2_with fail
        go_roundg (tn - (j + 1))
        case measure => omega
        case rel => exact ⟨j + 1, _, rfl, by omega, rfl, RO5.out, by rw [HT'.out]; exact O5.out, F5.out⟩
    · have hd : decide (j < tn) = false := decide_eq_false hjn
      obtain rfl : tn = j := by omega
      have hfull : T.take tn = T := List.take_of_length_le (by rw [HLE.out]; omega)
      rw [hfull] at O
      clear hfull
      have r2 := R2.out.fr F.out (by simp)
      have R2' := Lib.hid ((r2.setCell 0 (.slice ea en ec)).setCell 1 (.slice a tn c))
      have FF := Lib.hid ((((Fr.refl [w.heap.size + 1] wr).setCell (p := ⟨w.heap.size + 1, 0, none⟩) (.inl (by simp)) (.slice ea en ec)).setCell (p := ⟨w.heap.size + 1, 1, none⟩) (.inl (by simp)) (.slice a tn c)))
      clear r2
      go_wp2_with fail
      refine bodyPost_ret (results_cell1 rfl _ _ _ (g := w.heap.size + 1) (cs := [.slice ea en ec, .slice a tn c]) rfl agg31 size31 (fun j v hj => by rw [Nat.zero_add]; exact (R2'.out.cell j).trans hj)) rfl ?_
      exact ⟨a, c, rfl, ties_of_own (own_frR O.out FF.out (by simp)), FW.out.trans FF.out (by intro y hy; simp at hy; exact .inr (by omega)), fun g o hg => by
        subst hg
        have := (O.out.lt g rfl).1
        omega⟩
end Go.Proofs.Ytclkahggfdnpgaa

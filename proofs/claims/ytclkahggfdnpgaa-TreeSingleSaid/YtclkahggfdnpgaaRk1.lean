/- The document's answers on markings: fits, accepting, slack. -/
import Derived.Test.YtclkahggfdnpgaaMk19
set_option linter.unusedVariables false
set_option linter.unusedSimpArgs false
namespace Go.Proofs.Ytclkahggfdnpgaa
open Go.RowKit
theorem any_take {α : Type} [Inhabited α] (M : List α) (g : α → Bool) (j : Nat) (h : j < M.length) : (M.take (j + 1)).any g = ((M.take j).any g || g (M.getD j default)) := by
  rw [take_succD M j h, List.any_append]
  simp
theorem any_at {α : Type} [Inhabited α] (M : List α) (g : α → Bool) (j : Nat) (h : j < M.length) (hg : g (M.getD j default) = true) : M.any g = true := by
  rw [List.any_eq_true]
  exact ⟨_, List.mem_of_getElem? (getD_at M j h), hg⟩
theorem fitsB_bad {k : Nat} {M : List MarkD} (j : Nat) (h : j < M.length) (hb : (M.getD j default).bad = true) : fitsB k M = false := by
  unfold fitsB
  rw [any_at M _ j h hb]
  simp
theorem fitsB_none {k : Nat} {M : List MarkD} (h : (M.take M.length).any MarkD.bad = false) : fitsB k M = decide (M.length = k) := by
  rw [List.take_length] at h
  unfold fitsB
  rw [h]
  simp
theorem bad_of {x : MarkD} (h : x.age < -1 ∨ x.age > 65536 ∨ x.due < -1 ∨ x.due > 1048576) : x.bad = true := by
  cases hb : x.bad
  · have := (bad_iff x).1 hb
    omega
  · rfl
set_option maxHeartbeats 1000000 in
theorem rfits_any (f : FlatD) (a : Option Addr) (n c : Nat) (M : List MarkD) (w : World) (h : MarksAt w a n M) (hn : n ≤ 100000) (hen : f.en ≤ 100000) :
    Calls Try.prog 21 #[f.val, .slice a n c] w fun e w' => e = .returned (.bool (fitsB f.en M)) ∧ Fr [] w w' := by
  obtain ⟨hl, hR⟩ := h
  have hr := (Fr.refl [] w).alloc (.cells #[.slice f.ea f.en f.ec, .slice f.ta f.tn f.tc] 31)
  have rb := Row.new w [.slice f.ea f.en f.ec, .slice f.ta f.tn f.tc] 31
  have R := Lib.hid (hR.fr hr)
  have HL := Lib.hid hl
  have HR := Lib.hid hr
  have x0 : (w.alloc (.cells #[.slice f.ea f.en f.ec, .slice f.ta f.tn f.tc] 31)).cell? ⟨w.heap.size, 0, none⟩ = some (.slice f.ea f.en f.ec) := rb.cell 0
  clear hR hl hr rb
  unfold FlatD.val
  go_enter Try.func21, Try.ntmps21
  go_wp2_with fail
  generalize hW : w.alloc (.cells #[.slice f.ea f.en f.ec, .slice f.ta f.tn f.tc] 31) = W0 at R HR x0 ⊢
  clear hW
  go_loopg [5] n (fun k i wr => ∃ (j : Nat), k = n - j ∧ j ≤ n ∧ i = .int .i64 j ∧ (M.take j).any MarkD.bad = false ∧ wr = W0)
  case atStart => exact ⟨0, rfl, by omega, rfl, rfl, rfl⟩
  case round =>
    obtain ⟨j, rfl, hj, rfl, hg, rfl⟩ := hrel
    have HG := Lib.hid hg
    clear hg
    by_cases hjn : j < n
    · have hd : decide (j < n) = true := decide_eq_true hjn
      obtain ⟨b1, o1, rfl, _, hc⟩ := R.out.at_ (by omega)
      have y1 : wr.cell? ⟨b1, o1 + j * 3 + 1, none⟩ = some (.int .i64 (M.getD j default).age) := hc j hjn 1 _ rfl
      have y2 : wr.cell? ⟨b1, o1 + j * 3 + 2, none⟩ = some (.int .i64 (M.getD j default).due) := hc j hjn 2 _ rfl
      have hbd := @bad_of (M.getD j default)
      have hfb := @fitsB_bad f.en M j (by rw [HL.out]; exact hjn)
      have htk := any_take M MarkD.bad j (by rw [HL.out]; exact hjn)
      have hbi := bad_iff (M.getD j default)
      generalize M.getD j default = x at y1 y2 hbd hfb htk hbi
      have HBD := Lib.hid hbd
      have HFB := Lib.hid hfb
      have HTK := Lib.hid htk
      have HBI := Lib.hid hbi
      clear hc hbd hfb htk hbi
      by_cases h1 : x.age < -1
      · have d1 : decide (x.age < -1) = true := decide_eq_true h1
        have HF := Lib.hid (HFB.out (HBD.out (.inl h1)))
        clear h1
        go_wp2_with fail
        go_ret
        exact ⟨ret_bool HF.out.symm, HR.out⟩
      have d1 : decide (x.age < -1) = false := decide_eq_false h1
      by_cases h2 : x.age > 65536
      · have d2 : decide (x.age > 65536) = true := decide_eq_true h2
        have HF := Lib.hid (HFB.out (HBD.out (.inr (.inl h2))))
        clear h1 h2
        go_wp2_with fail
        go_ret
        exact ⟨ret_bool HF.out.symm, HR.out⟩
      have d2 : decide (x.age > 65536) = false := decide_eq_false h2
      by_cases h3 : x.due < -1
      · have d3 : decide (x.due < -1) = true := decide_eq_true h3
        have HF := Lib.hid (HFB.out (HBD.out (.inr (.inr (.inl h3)))))
        clear h1 h2 h3
        go_wp2_with fail
        go_ret
        exact ⟨ret_bool HF.out.symm, HR.out⟩
      have d3 : decide (x.due < -1) = false := decide_eq_false h3
      by_cases h4 : x.due > 1048576
      · have d4 : decide (x.due > 1048576) = true := decide_eq_true h4
        have HF := Lib.hid (HFB.out (HBD.out (.inr (.inr (.inr h4)))))
        clear h1 h2 h3 h4
        go_wp2_with fail
        go_ret
        exact ⟨ret_bool HF.out.symm, HR.out⟩
      have d4 : decide (x.due > 1048576) = false := decide_eq_false h4
      have HN := Lib.hid (HBI.out.2 ⟨by omega, by omega, by omega, by omega⟩)
      clear h1 h2 h3 h4
      go_wp2_with fail
      go_roundg (n - (j + 1))
      case measure => omega
      case rel => exact ⟨j + 1, rfl, by omega, rfl, by rw [HTK.out, HG.out, HN.out]; rfl, rfl⟩
    · have hd : decide (j < n) = false := decide_eq_false hjn
      obtain rfl : n = j := by omega
      have HF := Lib.hid (fitsB_none (k := f.en) (M := M) (by rw [HL.out]; exact HG.out))
      by_cases he : n = f.en
      · have de : ((n : Int) == (f.en : Int)) = true := by rw [beq_iff_eq]; omega
        have HE := Lib.hid he
        clear he
        go_wp2_with fail
        go_ret
        exact ⟨ret_bool (by rw [HF.out, HL.out, decide_eq_true HE.out]), HR.out⟩
      · have de : ((n : Int) == (f.en : Int)) = false := by rw [beq_eq_false_iff_ne]; omega
        have HE := Lib.hid he
        clear he
        go_wp2_with fail
        go_ret
        exact ⟨ret_bool (by rw [HF.out, HL.out, decide_eq_false HE.out]), HR.out⟩
theorem pend_at (x : MarkD) : x.pend = (x.inn && decide (x.due ≥ 0)) := rfl
theorem accB_pend {k : Nat} {M : List MarkD} (j : Nat) (h : j < M.length) (hb : (M.getD j default).pend = true) : accB k M = false := by
  unfold accB
  rw [any_at M _ j h hb]
  simp
theorem accB_none {k : Nat} {M : List MarkD} (h : (M.take M.length).any MarkD.pend = false) : accB k M = fitsB k M := by
  rw [List.take_length] at h
  unfold accB
  rw [h]
  simp
set_option maxHeartbeats 1000000 in
theorem racc_any (f : FlatD) (a : Option Addr) (n c : Nat) (M : List MarkD) (w : World) (h : MarksAt w a n M) (hn : n ≤ 100000) (hen : f.en ≤ 100000) :
    Calls Try.prog 25 #[f.val, .slice a n c] w fun e w' => e = .returned (.bool (accB f.en M)) ∧ Fr [] w w' := by
  have hr := (Fr.refl [] w).alloc (.cells #[.slice f.ea f.en f.ec, .slice f.ta f.tn f.tc] 31)
  have rb := Row.new w [.slice f.ea f.en f.ec, .slice f.ta f.tn f.tc] 31
  have hM := h.fr hr
  have C1 := rfits_any f a n c M _ hM hn hen
  obtain ⟨hl, hR⟩ := hM
  have R := Lib.hid hR
  have HL := Lib.hid hl
  have HR := Lib.hid hr
  have x0 : (w.alloc (.cells #[.slice f.ea f.en f.ec, .slice f.ta f.tn f.tc] 31)).cell? ⟨w.heap.size, 0, none⟩ = some (.slice f.ea f.en f.ec) := rb.cell 0
  have x1 : (w.alloc (.cells #[.slice f.ea f.en f.ec, .slice f.ta f.tn f.tc] 31)).cell? ⟨w.heap.size, 1, none⟩ = some (.slice f.ta f.tn f.tc) := rb.cell 1
  clear hR hl hr rb h
  unfold FlatD.val at C1 ⊢
  go_enter Try.func25, Try.ntmps25
  go_wp2_with fail
  generalize hW : w.alloc (.cells #[.slice f.ea f.en f.ec, .slice f.ta f.tn f.tc] 31) = W0 at R HR x0 x1 C1 ⊢
  clear hW
  have D1 := Lib.hid C1
  clear C1
  go_loopg [5] n (fun k i wr => ∃ (j : Nat), k = n - j ∧ j ≤ n ∧ i = .int .i64 j ∧ (M.take j).any MarkD.pend = false ∧ wr = W0)
  case atStart => exact ⟨0, rfl, by omega, rfl, rfl, rfl⟩
  case round =>
    obtain ⟨j, rfl, hj, rfl, hg, rfl⟩ := hrel
    have HG := Lib.hid hg
    clear hg
    by_cases hjn : j < n
    · have hd : decide (j < n) = true := decide_eq_true hjn
      obtain ⟨b1, o1, rfl, _, hc⟩ := R.out.at_ (by omega)
      have y0 : wr.cell? ⟨b1, o1 + j * 3, none⟩ = some (.bool (M.getD j default).inn) := hc j hjn 0 _ rfl
      have y2 : wr.cell? ⟨b1, o1 + j * 3 + 2, none⟩ = some (.int .i64 (M.getD j default).due) := hc j hjn 2 _ rfl
      have hfb := @accB_pend f.en M j (by rw [HL.out]; exact hjn)
      have htk := any_take M MarkD.pend j (by rw [HL.out]; exact hjn)
      generalize M.getD j default = x at y0 y2 hfb htk
      have hpe := pend_at x
      have HFB := Lib.hid hfb
      have HTK := Lib.hid htk
      have HPE := Lib.hid hpe
      clear hc hfb htk hpe
      cases hi : x.inn
      · rw [hi] at y0
        have HP := Lib.hid (show x.pend = false by rw [HPE.out, hi]; rfl)
        clear hi
        go_wp2_with fail
        go_roundg (n - (j + 1))
        case measure => omega
        case rel => exact ⟨j + 1, rfl, by omega, rfl, by rw [HTK.out, HG.out, HP.out]; rfl, rfl⟩
      · rw [hi] at y0
        by_cases h0 : x.due ≥ 0
        · have d0 : decide (x.due ≥ 0) = true := decide_eq_true h0
          have HP := Lib.hid (HFB.out (by rw [HPE.out, hi, d0]; rfl))
          clear hi h0
          go_wp2_with fail
          go_ret
          exact ⟨ret_bool HP.out.symm, HR.out⟩
        · have d0 : decide (x.due ≥ 0) = false := decide_eq_false h0
          have HP := Lib.hid (show x.pend = false by rw [HPE.out, hi, d0]; rfl)
          clear hi h0
          go_wp2_with fail
          go_roundg (n - (j + 1))
          case measure => omega
          case rel => exact ⟨j + 1, rfl, by omega, rfl, by rw [HTK.out, HG.out, HP.out]; rfl, rfl⟩
    · have hd : decide (j < n) = false := decide_eq_false hjn
      obtain rfl : n = j := by omega
      have HF := Lib.hid (accB_none (k := f.en) (M := M) (by rw [HL.out]; exact HG.out))
      go_wp2_with fail
      refine D1.out.mono ?_
      rintro e w2 ⟨rfl, hF⟩
      have F2 := Lib.hid (HR.out.trans hF (by simp))
      clear hF
      go_wp2_with fail
      go_ret
      exact ⟨ret_bool HF.out.symm, F2.out⟩
theorem slackF_skip {s : Int} {x : MarkD} (h : x.pend = false ∨ ¬ x.due < s) (h0 : x.pend = true → s ≤ x.due) : slackF s x = s := by
  unfold slackF
  cases hp : x.pend
  · simp
  · have := h0 hp
    simp
    omega
set_option maxHeartbeats 1000000 in
theorem rslack_any (f : FlatD) (a : Option Addr) (n c : Nat) (M : List MarkD) (w : World) (h : MarksAt w a n M) (hn : n ≤ 100000) (hen : f.en ≤ 100000) :
    Calls Try.prog 23 #[f.val, .slice a n c] w fun e w' => e = .returned (.int .i64 (slackI f.en M)) ∧ Fr [] w w' := by
  have hr := (Fr.refl [] w).alloc (.cells #[.slice f.ea f.en f.ec, .slice f.ta f.tn f.tc] 31)
  have rb := Row.new w [.slice f.ea f.en f.ec, .slice f.ta f.tn f.tc] 31
  have hM := h.fr hr
  have C1 := rfits_any f a n c M _ hM hn hen
  obtain ⟨hl, hR⟩ := hM
  have R := Lib.hid hR
  have HL := Lib.hid hl
  have HR := Lib.hid hr
  have x0 : (w.alloc (.cells #[.slice f.ea f.en f.ec, .slice f.ta f.tn f.tc] 31)).cell? ⟨w.heap.size, 0, none⟩ = some (.slice f.ea f.en f.ec) := rb.cell 0
  have x1 : (w.alloc (.cells #[.slice f.ea f.en f.ec, .slice f.ta f.tn f.tc] 31)).cell? ⟨w.heap.size, 1, none⟩ = some (.slice f.ta f.tn f.tc) := rb.cell 1
  clear hR hl hr rb h
  unfold FlatD.val at C1 ⊢
  go_enter Try.func23, Try.ntmps23
  go_wp2_with fail
  refine C1.mono ?_
  rintro e w1 ⟨rfl, hF⟩
  have F1 := Lib.hid (HR.out.trans hF (by simp))
  have R1 := Lib.hid (R.out.fr hF)
  clear hF x0 x1 C1
  cases hfit : fitsB f.en M
  · have HS := Lib.hid (show slackI f.en M = -1 by unfold slackI; rw [hfit]; rfl)
    clear hfit
    go_wp2_with fail
    go_ret
    exact ⟨ret_int HS.out.symm, F1.out⟩
  · have HS := Lib.hid (slack_of_fits hfit)
    clear hfit
    go_wp2_with fail
    go_loopg [5, 6] n (fun k s i wr => ∃ (j : Nat), k = n - j ∧ j ≤ n ∧ i = .int .i64 j ∧ s = .int .i64 ((M.take j).foldl slackF 1048576) ∧ wr = w1)
    case atStart => exact ⟨0, rfl, by omega, rfl, rfl, rfl⟩
    case round =>
      obtain ⟨j, rfl, hj, rfl, rfl, rfl⟩ := hrel
      by_cases hjn : j < n
      · have hd : decide (j < n) = true := decide_eq_true hjn
        obtain ⟨b1, o1, rfl, _, hc⟩ := R1.out.at_ (by omega)
        have y0 : wr.cell? ⟨b1, o1 + j * 3, none⟩ = some (.bool (M.getD j default).inn) := hc j hjn 0 _ rfl
        have y2 : wr.cell? ⟨b1, o1 + j * 3 + 2, none⟩ = some (.int .i64 (M.getD j default).due) := hc j hjn 2 _ rfl
        have hfs := foldl_succ M j (by rw [HL.out]; exact hjn) 1048576
        generalize (M.take j).foldl slackF 1048576 = s at hfs ⊢
        generalize M.getD j default = x at y0 y2 hfs
        have HFS := Lib.hid hfs
        clear hc hfs
        have hpe := pend_at x
        have hsf : slackF s x = if x.pend then (if s < x.due then s else x.due) else s := rfl
        cases hi : x.inn
        · rw [hi] at y0
          have HP := Lib.hid (show slackF s x = s by rw [hsf, hpe, hi]; rfl)
          clear hi hpe hsf
          go_wp2_with fail
          go_roundg (n - (j + 1))
          case measure => omega
          case rel => exact ⟨j + 1, rfl, by omega, rfl, by rw [HFS.out, HP.out], rfl⟩
        · rw [hi] at y0
          by_cases h0 : x.due ≥ 0
          · have d0 : decide (x.due ≥ 0) = true := decide_eq_true h0
            by_cases hlt : x.due < s
            · have d1 : decide (x.due < s) = true := decide_eq_true hlt
              have HP := Lib.hid (show slackF s x = x.due by rw [hsf, hpe, hi, d0]; simp; omega)
              clear hi h0 hlt hpe hsf
              go_wp2_with fail
              go_roundg (n - (j + 1))
              case measure => omega
              case rel => exact ⟨j + 1, rfl, by omega, rfl, by rw [HFS.out, HP.out], rfl⟩
            · have d1 : decide (x.due < s) = false := decide_eq_false hlt
              have HP := Lib.hid (show slackF s x = s by rw [hsf, hpe, hi, d0]; simp; omega)
              clear hi h0 hlt hpe hsf
              go_wp2_with fail
              go_roundg (n - (j + 1))
              case measure => omega
              case rel => exact ⟨j + 1, rfl, by omega, rfl, by rw [HFS.out, HP.out], rfl⟩
          · have d0 : decide (x.due ≥ 0) = false := decide_eq_false h0
            have HP := Lib.hid (show slackF s x = s by rw [hsf, hpe, hi, d0]; rfl)
            clear hi h0 hpe hsf
            go_wp2_with fail
            go_roundg (n - (j + 1))
            case measure => omega
            case rel => exact ⟨j + 1, rfl, by omega, rfl, by rw [HFS.out, HP.out], rfl⟩
      · have hd : decide (j < n) = false := decide_eq_false hjn
        obtain rfl : n = j := by omega
        have ht := List.take_of_length_le (Nat.le_of_eq HL.out)
        have HT := Lib.hid ht
        clear ht
        go_wp2_with fail
        go_ret
        exact ⟨ret_int (by rw [HT.out, HS.out]), F1.out⟩
end Go.Proofs.Ytclkahggfdnpgaa

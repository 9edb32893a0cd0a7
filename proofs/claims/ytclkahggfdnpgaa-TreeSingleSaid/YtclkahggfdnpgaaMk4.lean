/- The slack; copies; ticks. -/
import Derived.Test.YtclkahggfdnpgaaMk3
set_option linter.unusedVariables false
set_option linter.unusedSimpArgs false
namespace Go.Proofs.Ytclkahggfdnpgaa
open Go.RowKit
def slackF (n : Int) (x : MarkD) : Int := if x.pend then (if n < x.due then n else x.due) else n
def slackI (k : Nat) (M : List MarkD) : Int := if fitsB k M then M.foldl slackF 1048576 else -1
theorem foldl_succ (M : List MarkD) (j : Nat) (h : j < M.length) (n : Int) : (M.take (j + 1)).foldl slackF n = slackF ((M.take j).foldl slackF n) (M.getD j default) := by
  rw [take_succD M j h, List.foldl_append]
  rfl
theorem slack_case {s r : Int} {x : MarkD} (hi : x.inn = true) (h0 : x.due ≥ 0) (hr : r = if s < x.due then s else x.due) : Value.int .i64 r = .int .i64 (slackF s x) := by
  rw [hr]
  unfold slackF MarkD.pend
  rw [hi, decide_eq_true h0]
  rfl
theorem ret_int {a b : Int} (h : a = b) : Ending.returned (.int .i64 a) = Ending.returned (.int .i64 b) := by rw [h]
set_option maxHeartbeats 400000 in
theorem slack_any (f : FlatD) (a : Option Addr) (n c : Nat) (M : List MarkD) (w : World) (h : MarksAt w a n M) (hn : n ≤ 100000) :
    Calls Try.prog 22 #[f.val, .slice a n c] w fun e w' => e = .returned (.int .i64 (slackI f.en M)) ∧ Fr [] w w' := by
  have hl := h.1
  have hr := (Fr.refl [] w).alloc (.cells #[.slice f.ea f.en f.ec, .slice f.ta f.tn f.tc] 25)
  have h1 := h.fr hr
  have C1 := fits_any f a n c M _ h1 hn
  have HM := Lib.hid h1
  have HR := Lib.hid hr
  have HL := Lib.hid hl
  clear h hr h1 hl
  unfold FlatD.val at C1 ⊢
  by_cases hfit : fitsB f.en M = true
  · rw [hfit] at C1
    have HFIT := Lib.hid hfit
    clear hfit
    go_enter Try.func22, Try.ntmps22
    go_wp2_with fail
    refine C1.mono ?_
    rintro e w2 ⟨rfl, hF⟩
    have F2 := Lib.hid (HR.out.trans hF (by simp))
    have M2 := Lib.hid (HM.out.fr hF)
    clear hF
    go_wp2_with fail
    go_loopg [5, 14] n (fun k s i wr => ∃ (j : Nat), k = n - j ∧ j ≤ n ∧ i = .int .i64 j ∧ s = .int .i64 ((M.take j).foldl slackF 1048576) ∧ Fr [] w2 wr)
    case atStart => exact ⟨0, rfl, by omega, rfl, rfl, Fr.refl _ _⟩
    case round =>
      obtain ⟨j, rfl, hj, rfl, rfl, hF⟩ := hrel
      have F := Lib.hid hF
      clear hF
      by_cases hjn : j < n
      · have hd : decide (j < n) = true := by rw [decide_eq_true_iff]; omega
        obtain ⟨b1, o1, rfl, hb1, hc1⟩ := (M2.out.fr F.out).2.at_ (by omega)
        have hcx := hc1 j hjn
        have ht := foldl_succ M j (by rw [HL.out]; exact hjn) 1048576
        generalize M.getD j default = x at hcx ht
        have hc' : ∀ k v, ([.bool x.inn, .int .i64 x.age, .int .i64 x.due] : List Value)[k]? = some v → wr.cell? ⟨b1, o1 + j * 3 + k, none⟩ = some v := hcx
        have HC := Lib.hid hc'
        have HT := Lib.hid ht
        clear hcx hc' hc1 ht
        generalize (M.take j).foldl slackF 1048576 = s at HT ⊢
        go_wp2_with (first | ((with_reducible refine wpList_load_at rfl 52 (.tmp 16) rfl agg52 3 size52 b1 (o1 + j * 3) [.bool x.inn, .int .i64 x.age, .int .i64 x.due] rfl HC.out ?_ ?_); exact rfl) | ((with_reducible refine wpList_var_agg rfl rfl 52 (.tmp 7) (.tmp 17) rfl rfl 3 zero52 [.bool x.inn, .int .i64 x.age, .int .i64 x.due] rfl ?_ ?_ ?_ ?_); (intro u hu; simp at hu; rcases hu with rfl | rfl | rfl <;> rfl); exact rfl; exact rfl))
        intro w3 hr3 hs3 hf3
        have F3 := Lib.hid (F.out.trans hf3 (by simp))
        have q0 : w3.cell? ⟨wr.heap.size, 0, none⟩ = some (.bool x.inn) := hr3.cell 0
        have q2 : w3.cell? ⟨wr.heap.size, 2, none⟩ = some (.int .i64 x.due) := hr3.cell 2
        clear hr3 hs3 hf3
        cases hi : x.inn
        · rw [hi] at q0
          have HI := Lib.hid hi
          clear hi
          go_wp2_with fail
          go_roundg (n - (j + 1))
          case measure => omega
          case rel => exact ⟨j + 1, rfl, by omega, rfl, by rw [HT.out]; simp [slackF, MarkD.pend, HI.out], F3.out⟩
        · rw [hi] at q0
          have HI := Lib.hid hi
          clear hi
          by_cases hdu : x.due ≥ 0
          · have d2 : decide (x.due ≥ 0) = true := by simpa using hdu
            go_wp2_with fail
            all_goals
              go_roundg (n - (j + 1))
              case measure => omega
              case rel => exact ⟨j + 1, rfl, by omega, rfl, by rw [HT.out]; exact slack_case HI.out hdu (by split <;> omega), F3.out⟩
          · have d2 : decide (x.due ≥ 0) = false := by simpa using hdu
            go_wp2_with fail
            go_roundg (n - (j + 1))
            case measure => omega
            case rel => exact ⟨j + 1, rfl, by omega, rfl, by rw [HT.out]; unfold slackF MarkD.pend; rw [d2]; simp, F3.out⟩
      · have hd : decide (j < n) = false := by rw [decide_eq_false_iff_not]; omega
        have hfull : M.take j = M := List.take_of_length_le (by rw [HL.out]; omega)
        rw [hfull]
        clear hfull
        go_wp2_with fail
        go_ret
        exact ⟨ret_int (by unfold slackI; rw [if_pos HFIT.out]), F2.out.trans F.out (by simp)⟩
  · have hfit : fitsB f.en M = false := by simpa using hfit
    rw [hfit] at C1
    have HFIT := Lib.hid hfit
    clear hfit
    go_enter Try.func22, Try.ntmps22
    go_wp2_with fail
    refine C1.mono ?_
    rintro e w2 ⟨rfl, hF⟩
    go_wp2_with fail
    go_ret
    exact ⟨ret_int (by unfold slackI; rw [HFIT.out]; rfl), HR.out.trans hF (by simp)⟩
end Go.Proofs.Ytclkahggfdnpgaa

/- Is a program too large: the walk. -/
import Derived.Test.YtclkahggfdnpgaaTr18
set_option linter.unusedVariables false
set_option linter.unusedSimpArgs false
namespace Go.Proofs.Ytclkahggfdnpgaa
open Go.RowKit
set_option maxHeartbeats 4000000 in
set_option maxRecDepth 100000 in
theorem large19_any (p : ProgD) (w : World) (h : ProgIn w p) :
    Calls Try.prog 35 #[p.val] w fun e w' => e = .returned (.bool (bigP p)) ∧ Fr [] w w' := by
  have HH := Lib.hid h
  have hmax := h.max
  have FA := Lib.hid ((Fr.refl [] w).alloc (.cells #[.slice p.pa p.Fs.length p.pc, .slice p.ca p.Cs.length p.cc] 62))
  have RB := Lib.hid (Row.new w [.slice p.pa p.Fs.length p.pc, .slice p.ca p.Cs.length p.cc] 62)
  unfold ProgD.val
  obtain ⟨pa, hpa0⟩ : ∃ a, a = p.pa := ⟨_, rfl⟩
  obtain ⟨n, hn⟩ : ∃ n, n = p.Fs.length := ⟨_, rfl⟩
  obtain ⟨m, hm⟩ : ∃ n, n = p.Cs.length := ⟨_, rfl⟩
  rw [← hpa0, ← hn, ← hm] at FA RB ⊢
  rw [← hn] at hmax
  have HPA := Lib.hid hpa0
  have HN := Lib.hid hn
  have HM := Lib.hid hm
  clear h hpa0 hn hm
  go_enter Try.func35, Try.ntmps35
  go_wp2_with fail
  obtain ⟨w1, hw1⟩ : ∃ w1, w1 = w.alloc (.cells #[.slice pa n p.pc, .slice p.ca m p.cc] 62) := ⟨_, rfl⟩
  rw [← hw1] at FA RB ⊢
  clear hw1
  go_loopg [3, 7] n (fun k u3 i wr => ∃ j : Nat, k = n - j ∧ j ≤ n ∧ i = .int .i64 j ∧ (p.Fs.take j).any bigF = false ∧ Fr [] w1 wr)
  case atStart => exact ⟨0, rfl, by omega, rfl, rfl, Fr.refl _ _⟩
  case round =>
    obtain ⟨j, rfl, hj, rfl, ht, hF⟩ := hrel
    have TT := Lib.hid ht
    have F := Lib.hid (FA.out.trans hF (by simp))
    have F1 := Lib.hid hF
    have r0 : wr.cell? ⟨w.heap.size, 0, none⟩ = some (.slice pa n p.pc) := (RB.out.fr hF (by simp)).cell 0
    have r1 : wr.cell? ⟨w.heap.size, 1, none⟩ = some (.slice p.ca m p.cc) := (RB.out.fr hF (by simp)).cell 1
    clear ht hF
    by_cases hjn : j < n
    · have hd : decide (j < n) = true := decide_eq_true hjn
      obtain ⟨gt, ot, hpa, hgt, hct⟩ := (HH.out.rows.fr F.out).at_ (by rw [← HN.out]; omega)
      have hcx := hct j (by rw [← HN.out]; exact hjn)
      have T1 := Lib.hid (take_succD p.Fs j (by rw [← HN.out]; exact hjn))
      obtain ⟨f, hf⟩ : ∃ f, p.Fs.getD j default = f := ⟨_, rfl⟩
      have HM2 := Lib.hid (show f ∈ p.Fs by rw [← hf]; exact getD_memD _ _ (by rw [← HN.out]; exact hjn))
      rw [hf] at hcx T1
      have y0 : wr.cell? ⟨gt, ot + j * 2, none⟩ = some (.slice f.ea f.en f.ec) := hcx 0 _ rfl
      have y1 : wr.cell? ⟨gt, ot + j * 2 + 1, none⟩ = some (.slice f.ta f.tn f.tc) := hcx 1 _ rfl
      have hpa2 := HPA.out.trans hpa
      subst hpa2
      clear hcx hct hf hpa hgt
      by_cases h1 : f.en > 10
      · have d1 : decide (f.en > 10) = true := decide_eq_true h1
        have e1 : decide ((10 : Int) < (f.en : Int)) = true := decide_eq_true (by omega)
        have BB := Lib.hid (show bigF f = true by unfold bigF; rw [d1]; rfl)
        go_wp2_with fail
        go_ret
        refine ⟨?_, F.out⟩
        have : bigP p = true := by
          unfold bigP
          rw [Bool.or_eq_true]
          exact .inl (List.any_eq_true.2 ⟨f, HM2.out, BB.out⟩)
        rw [this]
        rfl
      · have d1 : decide (f.en > 10) = false := decide_eq_false h1
        have e1 : decide ((10 : Int) < (f.en : Int)) = false := decide_eq_false (by omega)
        by_cases h2 : f.tn > 60
        · have d2 : decide (f.tn > 60) = true := decide_eq_true h2
          have e2 : decide ((60 : Int) < (f.tn : Int)) = true := decide_eq_true (by omega)
          have BB := Lib.hid (show bigF f = true by unfold bigF; rw [d1, d2]; rfl)
          clear h1 h2
          go_wp2_with fail
          go_ret
          refine ⟨?_, F.out⟩
          have : bigP p = true := by
            unfold bigP
            rw [Bool.or_eq_true]
            exact .inl (List.any_eq_true.2 ⟨f, HM2.out, BB.out⟩)
          rw [this]
          rfl
        · have d2 : decide (f.tn > 60) = false := decide_eq_false h2
          have e2 : decide ((60 : Int) < (f.tn : Int)) = false := decide_eq_false (by omega)
          have BB := Lib.hid (show bigF f = false by unfold bigF; rw [d1, d2]; rfl)
          clear h1 h2
          go_wp2_with fail
          go_roundg (n - (j + 1))
          case measure => omega
          case rel => exact ⟨j + 1, rfl, by omega, rfl, by rw [T1.out, List.any_append, TT.out]; simp [BB.out], F1.out⟩
    · have hd : decide (j < n) = false := decide_eq_false hjn
      obtain rfl : j = n := by omega
      have hall := TT.out
      rw [List.take_of_length_le (by rw [← HN.out]; omega)] at hall
      have HA := Lib.hid hall
      by_cases h1 : j > 9
      · have d1 : decide (j > 9) = true := decide_eq_true h1
        have e1 : decide ((9 : Int) < (j : Int)) = true := decide_eq_true (by omega)
        have HB := Lib.hid (show bigP p = true by unfold bigP; rw [HA.out, ← HN.out, d1]; rfl)
        clear hall
        go_wp2_with fail
        go_ret
        exact ⟨by rw [HB.out]; rfl, F.out⟩
      · have d1 : decide (j > 9) = false := decide_eq_false h1
        have e1 : decide ((9 : Int) < (j : Int)) = false := decide_eq_false (by omega)
        have HB := Lib.hid (show bigP p = decide (m > 20) by unfold bigP; rw [HA.out, ← HN.out, d1, ← HM.out]; rfl)
        clear hall h1
        go_wp2_with fail
        go_ret
        refine ⟨ret_bool ?_, F.out⟩
        rw [HB.out]
        by_cases h9 : m > 20 <;> simp [h9] <;> omega
end Go.Proofs.Ytclkahggfdnpgaa

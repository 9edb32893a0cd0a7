/- Equal markings, the document's own way. -/
import Derived.Test.YtclkahggfdnpgaaRk3
import Derived.Deep.RegionHeldLaw
set_option linter.unusedVariables false
set_option linter.unusedSimpArgs false
namespace Go.Proofs.Ytclkahggfdnpgaa
open Go.RowKit
theorem rsame_any (a b : Option Addr) (n m c d : Nat) (L M : List MarkD) (w : World) (hn : n ≤ 100000) (hm : m ≤ 100000) (hL : MarksAt w a n L) (hM : MarksAt w b m M) :
    Calls Try.prog 26 #[.slice a n c, .slice b m d] w fun e w' => e = .returned (.bool (decide (L = M))) ∧ Fr [] w w' := by
  have hl1 := Lib.hid hL.1
  have hl2 := Lib.hid hM.1
  by_cases he : n = m
  · subst he
    have HL := Lib.hid hL
    have HM := Lib.hid hM
    clear hL hM
    go_enter Try.func26, Try.ntmps26
    go_wp2_with fail
    go_loopg [5] n (fun k i wr => ∃ j : Nat, k = n - j ∧ j ≤ n ∧ i = .int .i64 j ∧ L.take j = M.take j ∧ Fr [] w wr)
    case atStart => exact ⟨0, rfl, by omega, rfl, by simp, Fr.refl _ _⟩
    case round =>
      obtain ⟨j, rfl, hj, rfl, ht, hF⟩ := hrel
      have F := Lib.hid hF
      have TT := Lib.hid ht
      clear ht
      by_cases hjn : j < n
      · have hd : decide (j < n) = true := by rw [decide_eq_true_iff]; omega
        obtain ⟨b1, o1, rfl, hb1, hc1⟩ := (HL.out.fr hF).2.at_ (by omega)
        obtain ⟨b2, o2, rfl, hb2, hc2⟩ := (HM.out.fr hF).2.at_ (by omega)
        have k1 := hc1 j hjn
        have k2 := hc2 j hjn
        have T1 := Lib.hid (take_succD L j (by rw [hl1.out]; exact hjn))
        have T2 := Lib.hid (take_succD M j (by rw [hl2.out]; exact hjn))
        generalize L.getD j default = x at k1 T1
        generalize M.getD j default = y at k2 T2
        have x0 : wr.cell? ⟨b1, o1 + j * 3, none⟩ = some (.bool x.inn) := k1 0 _ rfl
        have x1 : wr.cell? ⟨b1, o1 + j * 3 + 1, none⟩ = some (.int .i64 x.age) := k1 1 _ rfl
        have x2 : wr.cell? ⟨b1, o1 + j * 3 + 2, none⟩ = some (.int .i64 x.due) := k1 2 _ rfl
        have y0 : wr.cell? ⟨b2, o2 + j * 3, none⟩ = some (.bool y.inn) := k2 0 _ rfl
        have y1 : wr.cell? ⟨b2, o2 + j * 3 + 1, none⟩ = some (.int .i64 y.age) := k2 1 _ rfl
        have y2 : wr.cell? ⟨b2, o2 + j * 3 + 2, none⟩ = some (.int .i64 y.due) := k2 2 _ rfl
        clear k1 k2 hc1 hc2 hF
        go_wp2_with fail
        obtain ⟨xi, xa, xd⟩ := x
        obtain ⟨yi, ya, yd⟩ := y
        simp only at x0 x1 x2 y0 y1 y2
        by_cases h1 : xi = yi
        · subst h1
          by_cases h2 : xa = ya
          · subst h2
            by_cases h3 : xd = yd
            · subst h3
              go_region_held_law (fun w' => w'.cell? ⟨b1, o1 + j * 3, none⟩ = some (.bool xi) ∧ w'.cell? ⟨b1, o1 + j * 3 + 1, none⟩ = some (.int .i64 xa) ∧ w'.cell? ⟨b1, o1 + j * 3 + 2, none⟩ = some (.int .i64 xd) ∧ w'.cell? ⟨b2, o2 + j * 3, none⟩ = some (.bool xi) ∧ w'.cell? ⟨b2, o2 + j * 3 + 1, none⟩ = some (.int .i64 xa) ∧ w'.cell? ⟨b2, o2 + j * 3 + 2, none⟩ = some (.int .i64 xd)) (go_keep) (fail)
              all_goals
                go_wp2_with fail
                go_roundg (n - (j + 1))
                case measure => omega
                case rel => exact ⟨j + 1, rfl, by omega, rfl, by rw [T1.out, T2.out, TT.out], F.out.drewN 1⟩
            · skip
              have e3 : (xd == yd) = false := by simpa using h3
              have hLM : ¬ L = M := by
                intro h
                subst h
                have := T1.out.symm.trans T2.out
                simp at this
                omega
              have HLM := Lib.hid hLM
              clear hLM
              go_region_held_law (fun w' => w'.cell? ⟨b1, o1 + j * 3, none⟩ = some (.bool xi) ∧ w'.cell? ⟨b1, o1 + j * 3 + 1, none⟩ = some (.int .i64 xa) ∧ w'.cell? ⟨b1, o1 + j * 3 + 2, none⟩ = some (.int .i64 xd) ∧ w'.cell? ⟨b2, o2 + j * 3, none⟩ = some (.bool xi) ∧ w'.cell? ⟨b2, o2 + j * 3 + 1, none⟩ = some (.int .i64 xa) ∧ w'.cell? ⟨b2, o2 + j * 3 + 2, none⟩ = some (.int .i64 yd)) (go_keep) (fail)
              all_goals
                go_wp2_with fail
                go_ret
                exact ⟨ret_bool (decide_eq_false HLM.out).symm, F.out.drewN 1⟩
          · skip
            have e3 : (xa == ya) = false := by simpa using h2
            have hLM : ¬ L = M := by
              intro h
              subst h
              have := T1.out.symm.trans T2.out
              simp at this
              omega
            have HLM := Lib.hid hLM
            clear hLM
            go_region_held_law (fun w' => w'.cell? ⟨b1, o1 + j * 3, none⟩ = some (.bool xi) ∧ w'.cell? ⟨b1, o1 + j * 3 + 1, none⟩ = some (.int .i64 xa) ∧ w'.cell? ⟨b1, o1 + j * 3 + 2, none⟩ = some (.int .i64 xd) ∧ w'.cell? ⟨b2, o2 + j * 3, none⟩ = some (.bool xi) ∧ w'.cell? ⟨b2, o2 + j * 3 + 1, none⟩ = some (.int .i64 ya) ∧ w'.cell? ⟨b2, o2 + j * 3 + 2, none⟩ = some (.int .i64 yd)) (go_keep) (fail)
            all_goals
              go_wp2_with fail
              go_ret
              exact ⟨ret_bool (decide_eq_false HLM.out).symm, F.out.drewN 1⟩
        · skip
          have e3 : (xi == yi) = false := by simpa using h1
          have hLM : ¬ L = M := by
            intro h
            subst h
            have := T1.out.symm.trans T2.out
            simp at this
            exact h1 this.1
          have HLM := Lib.hid hLM
          clear hLM
          go_region_held_law (fun w' => w'.cell? ⟨b1, o1 + j * 3, none⟩ = some (.bool xi) ∧ w'.cell? ⟨b1, o1 + j * 3 + 1, none⟩ = some (.int .i64 xa) ∧ w'.cell? ⟨b1, o1 + j * 3 + 2, none⟩ = some (.int .i64 xd) ∧ w'.cell? ⟨b2, o2 + j * 3, none⟩ = some (.bool yi) ∧ w'.cell? ⟨b2, o2 + j * 3 + 1, none⟩ = some (.int .i64 ya) ∧ w'.cell? ⟨b2, o2 + j * 3 + 2, none⟩ = some (.int .i64 yd)) (go_keep) (fail)
          all_goals
            go_wp2_with fail
            go_ret
            exact ⟨ret_bool (decide_eq_false HLM.out).symm, F.out.drewN 1⟩
      · have hd : decide (j < n) = false := by rw [decide_eq_false_iff_not]; omega
        have hLM : L = M := by
          have ht := TT.out
          rw [List.take_of_length_le (by rw [hl1.out]; omega), List.take_of_length_le (by rw [hl2.out]; omega)] at ht
          exact ht
        have HLM := Lib.hid hLM
        clear hLM hF
        go_wp2_with fail
        go_ret
        exact ⟨ret_bool (decide_eq_true HLM.out).symm, F.out⟩
  · have hd : ((n : Int) != (m : Int)) = true := by simpa using (by omega : ¬ (n : Int) = m)
    have hLM : ¬ L = M := fun h => he (by rw [← hl1.out, ← hl2.out, h])
    have HLM := Lib.hid hLM
    clear hL hM hLM
    go_enter Try.func26, Try.ntmps26
    go_wp2_with fail
    go_ret
    exact ⟨ret_bool (decide_eq_false HLM.out).symm, Fr.refl _ _⟩
end Go.Proofs.Ytclkahggfdnpgaa

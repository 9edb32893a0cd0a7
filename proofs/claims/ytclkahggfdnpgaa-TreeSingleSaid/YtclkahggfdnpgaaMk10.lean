/- All; large; run's parts. -/
import Derived.Test.YtclkahggfdnpgaaMk9
set_option linter.unusedVariables false
set_option linter.unusedSimpArgs false
namespace Go.Proofs.Ytclkahggfdnpgaa
open Go.RowKit
def largeB (f : FlatD) : Bool := decide (f.en > 40) || decide (f.tn > 300)
theorem large_any (f : FlatD) (w : World) : Calls Try.prog 15 #[f.val] w fun e w' => e = .returned (.bool (largeB f)) ∧ Fr [] w w' := by
  have hr := (Fr.refl [] w).alloc (.cells #[.slice f.ea f.en f.ec, .slice f.ta f.tn f.tc] 25)
  have HR := Lib.hid hr
  clear hr
  unfold FlatD.val largeB
  by_cases h1 : f.en > 40
  · have d1 : decide ((f.en : Int) > 40) = true := by rw [decide_eq_true_iff]; omega
    rw [decide_eq_true h1, Bool.true_or]
    clear h1
    go_enter Try.func15, Try.ntmps15
    go_wp2_with fail
    go_ret
    exact ⟨rfl, HR.out⟩
  · have d1 : decide ((f.en : Int) > 40) = false := by rw [decide_eq_false_iff_not]; omega
    rw [decide_eq_false h1, Bool.false_or]
    clear h1
    by_cases h2 : f.tn > 300
    · have d2 : decide ((f.tn : Int) > 300) = true := by rw [decide_eq_true_iff]; omega
      rw [decide_eq_true h2]
      clear h2
      go_enter Try.func15, Try.ntmps15
      go_wp2_with fail
      go_ret
      exact ⟨rfl, HR.out⟩
    · have d2 : decide ((f.tn : Int) > 300) = false := by rw [decide_eq_false_iff_not]; omega
      rw [decide_eq_false h2]
      clear h2
      go_enter Try.func15, Try.ntmps15
      go_wp2_with fail
      go_ret
      exact ⟨rfl, HR.out⟩
end Go.Proofs.Ytclkahggfdnpgaa

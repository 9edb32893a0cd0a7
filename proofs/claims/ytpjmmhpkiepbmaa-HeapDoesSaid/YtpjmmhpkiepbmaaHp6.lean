/- An item is put. -/
import Derived.Test.YtpjmmhpkiepbmaaHp5
import Derived.Deep.RegionLaw
import Derived.Deep.AppendLies
set_option linter.unusedVariables false
set_option linter.unusedSimpArgs false
namespace Go.Proofs.Ytpjmmhpkiepbmaa
open Go.RowKit
theorem ret_i {a b : Int} (h : a = b) : Ending.returned (.int .i64 a) = Ending.returned (.int .i64 b) := by rw [h]
theorem put_range (b : Nat) (x : ItD) (w : World) (hx : ¬ x.ok) : Calls Try.prog 10 #[.pointer (some ⟨b, 0, none⟩), x.val] w fun e w' => e = .returned (.int .i64 3) ∧ Fr [] w w' := by
  have F := Lib.hid ((Fr.refl [] w).alloc (.cells #[.int .i64 x.id, .int .i64 x.base, .int .i64 x.since] 32))
  unfold ItD.ok at hx
  simp only [ItD.val]
  by_cases h1 : x.base < 0
  · have d1 : decide (x.base < 0) = true := decide_eq_true h1
    clear hx h1
    go_enter Try.func10, Try.ntmps10
    go_wp2_with fail
    go_ret
    exact ⟨rfl, F.out⟩
  have d1 : decide (x.base < 0) = false := decide_eq_false h1
  by_cases h2 : x.base > 9
  · have d2 : decide (x.base > 9) = true := decide_eq_true h2
    clear hx h1 h2
    go_enter Try.func10, Try.ntmps10
    go_wp2_with fail
    go_ret
    exact ⟨rfl, F.out⟩
  have d2 : decide (x.base > 9) = false := decide_eq_false h2
  by_cases h3 : x.since < 0
  · have d3 : decide (x.since < 0) = true := decide_eq_true h3
    clear hx h1 h2 h3
    go_enter Try.func10, Try.ntmps10
    go_wp2_with fail
    go_ret
    exact ⟨rfl, F.out⟩
  have d3 : decide (x.since < 0) = false := decide_eq_false h3
  have d4 : decide (x.since > 1099511627776) = true := decide_eq_true (by omega)
  clear hx h1 h2 h3
  go_enter Try.func10, Try.ntmps10
  go_wp2_with fail
  go_ret
  exact ⟨rfl, F.out⟩
theorem v_slice {E : ElemOf Try.prog 3 Int} {w : World} {b m base n : Nat} {step : Int} {L : List ItD} {v : Value} (h : HpAt E w b m base n step L v) : ∃ a c, v = .slice a L.length c := by
  rcases h.row.2 with ⟨rfl, h0⟩ | ⟨g, cap, cur, rfl, _⟩
  · exact ⟨_, _, by rw [h0]⟩
  · exact ⟨_, _, rfl⟩
theorem put_twice (E : ElemOf Try.prog 3 Int) (b m base n : Nat) (step : Int) (L : List ItD) (v : Value) (x : ItD) (w : World) (h : HpAt E w b m base n step L v) (hx : x.ok) (hid : inI x.id) (ht : (posM L x.id).isSome = true) :
    Calls Try.prog 10 #[.pointer (some ⟨b, 0, none⟩), x.val] w fun e w' => e = .returned (.int .i64 6) ∧ Fr [] w w' := by
  have hf := (Fr.refl [] w).alloc (.cells #[.int .i64 x.id, .int .i64 x.base, .int .i64 x.since] 32)
  have F := Lib.hid hf
  have C1 := has_any E b m base n step L v _ (h.fr hf) x.id hid
  rw [ht] at C1
  have d1 : decide (x.base < 0) = false := decide_eq_false (by have := hx.1; omega)
  have d2 : decide (x.base > 9) = false := decide_eq_false (by have := hx.2.1; omega)
  have d3 : decide (x.since < 0) = false := decide_eq_false (by have := hx.2.2.1; omega)
  have d4 : decide (x.since > 1099511627776) = false := decide_eq_false (by have := hx.2.2.2; omega)
  simp only [ItD.val]
  clear hf h hx ht
  go_enter Try.func10, Try.ntmps10
  go_wp2_with fail
  refine C1.mono ?_
  rintro e w2 ⟨rfl, rfl⟩
  go_wp2_with fail
  go_ret
  exact ⟨rfl, F.out⟩
theorem put_many (E : ElemOf Try.prog 3 Int) (b m base n : Nat) (step : Int) (L : List ItD) (v : Value) (x : ItD) (w : World) (h : HpAt E w b m base n step L v) (hx : x.ok) (hid : inI x.id) (ht : (posM L x.id).isSome = false) (hl : L.length = 1000) :
    Calls Try.prog 10 #[.pointer (some ⟨b, 0, none⟩), x.val] w fun e w' => e = .returned (.int .i64 4) ∧ Fr [] w w' := by
  have hf := (Fr.refl [] w).alloc (.cells #[.int .i64 x.id, .int .i64 x.base, .int .i64 x.since] 32)
  have F := Lib.hid hf
  have C1 := has_any E b m base n step L v _ (h.fr hf) x.id hid
  rw [ht] at C1
  obtain ⟨a, c, rfl⟩ := v_slice h
  have c1 : (w.alloc (.cells #[.int .i64 x.id, .int .i64 x.base, .int .i64 x.since] 32)).cell? ⟨b, 1, none⟩ = some (.slice a L.length c) := (h.fr hf).head.cell 1
  have d1 : decide (x.base < 0) = false := decide_eq_false (by have := hx.1; omega)
  have d2 : decide (x.base > 9) = false := decide_eq_false (by have := hx.2.1; omega)
  have d3 : decide (x.since < 0) = false := decide_eq_false (by have := hx.2.2.1; omega)
  have d4 : decide (x.since > 1099511627776) = false := decide_eq_false (by have := hx.2.2.2; omega)
  have de : ((L.length : Int) == 1000) = true := by rw [beq_iff_eq]; omega
  simp only [ItD.val]
  clear hf h hx ht hl
  go_enter Try.func10, Try.ntmps10
  go_wp2_with fail
  refine C1.mono ?_
  rintro e w2 ⟨rfl, rfl⟩
  go_wp2_with fail
  go_ret
  exact ⟨rfl, F.out⟩
theorem posM_snoc {L : List ItD} {x : ItD} (hno : posM L x.id = none) : (fun y => if y = x.id then some (L.length : Int) else posM L y) = posM (L ++ [x]) := by
  funext y
  unfold posM at hno ⊢
  rw [List.findIdx?_append]
  by_cases hy : y = x.id
  · subst hy
    rw [if_pos rfl]
    have hn : L.findIdx? (fun z => decide (z.id = x.id)) = none := by simpa using hno
    rw [hn]
    simp [List.findIdx?_cons]
  · rw [if_neg hy]
    cases hf : L.findIdx? (fun z => decide (z.id = y)) with
    | none =>
      have : ¬ x.id = y := fun h => hy h.symm
      simp [List.findIdx?_cons, this]
    | some j => simp
theorem getD_snoc_lt {α : Type} [Inhabited α] (L : List α) (x : α) (j : Nat) (h : j < L.length) : (L ++ [x]).getD j default = L.getD j default := by
  rw [List.getD_eq_getElem?_getD, List.getD_eq_getElem?_getD, List.getElem?_append_left h]
theorem getD_snoc_eq {α : Type} [Inhabited α] (L : List α) (x : α) : (L ++ [x]).getD L.length default = x := by
  rw [List.getD_eq_getElem?_getD, List.getElem?_append_right (Nat.le_refl _), Nat.sub_self]
  rfl
theorem Good.snoc {step : Int} {L : List ItD} {x : ItD} (h : Good step L) (hx : x.ok) (hid : inI x.id) (hno : posM L x.id = none) (hl : L.length < 1000) : Good step (L ++ [x]) := by
  have hne : ∀ j, j < L.length → (L.getD j default).id ≠ x.id := by
    intro j hj he
    rw [posM_some h.nd hj he] at hno
    cases hno
  refine ⟨h.step, fun y hy => ?_, fun y hy => ?_, fun i j hi hj hij => ?_, by simp; omega⟩
  · rcases List.mem_append.1 hy with h1 | h1
    · exact h.ok y h1
    · simp at h1; subst h1; exact hx
  · rcases List.mem_append.1 hy with h1 | h1
    · exact h.ids y h1
    · simp at h1; subst h1; exact hid
  · simp at hi hj
    by_cases hi' : i < L.length
    · rw [getD_snoc_lt L x i hi'] at hij
      by_cases hj' : j < L.length
      · rw [getD_snoc_lt L x j hj'] at hij
        exact h.nd i j hi' hj' hij
      · obtain rfl : j = L.length := by omega
        rw [getD_snoc_eq] at hij
        exact absurd hij (hne i hi')
    · obtain rfl : i = L.length := by omega
      rw [getD_snoc_eq] at hij
      by_cases hj' : j < L.length
      · rw [getD_snoc_lt L x j hj'] at hij
        exact absurd hij.symm (hne j hj')
      · omega
end Go.Proofs.Ytpjmmhpkiepbmaa

/- A heap made, its length, who is there. -/
import Derived.Test.YtpjmmhpkiepbmaaHp4
set_option linter.unusedVariables false
set_option linter.unusedSimpArgs false
namespace Go.Proofs.Ytpjmmhpkiepbmaa
open Go.RowKit
theorem intE_ex : ∃ E : ElemOf Try.prog 3 Int, (∀ v, E.val v = .int .i64 v) ∧ E.zero = 0 ∧ ∀ v, inI v → E.good v := ⟨intElem Try.prog 3 Try.underlying3 (fun w => by kernel_rfl), fun _ => rfl, rfl, fun _ h => h⟩
theorem posM_nil : posM [] = fun _ => none := by
  funext x
  rfl
theorem new_bad (s : Int) (w : World) (hs : ¬ stepOk s) : Calls Try.prog 8 #[.int .i64 s] w fun e w' => e = .returned (.tuple #[.pointer none, .int .i64 1]) ∧ w = w' := by
  unfold stepOk at hs
  by_cases h1 : s < 1
  · have d1 : decide (s < 1) = true := decide_eq_true h1
    clear hs h1
    go_enter Try.func8, Try.ntmps8
    go_wp2_with fail
    go_ret2
    exact ⟨rfl, rfl⟩
  · have d1 : decide (s < 1) = false := decide_eq_false h1
    have d2 : decide (s > 1048576) = true := decide_eq_true (by omega)
    clear hs h1
    go_enter Try.func8, Try.ntmps8
    go_wp2_with fail
    go_ret2
    exact ⟨rfl, rfl⟩
theorem new_good (E : ElemOf Try.prog 3 Int) (s : Int) (w : World) (hs : stepOk s) : Calls Try.prog 8 #[.int .i64 s] w fun e w' => e = .returned (.tuple #[.pointer (some ⟨w.heap.size + 1, 0, none⟩), .int .i64 0]) ∧ HpAt E w' (w.heap.size + 1) w.heap.size (w.heap.size + 2) 0 s [] (.slice none 0 0) ∧ Fr [] w w' ∧ w'.heap.size = w.heap.size + 2 := by
  have d1 : decide (s < 1) = false := decide_eq_false (by have := hs.1; omega)
  have d2 : decide (s > 1048576) = false := decide_eq_false (by have := hs.2; omega)
  have hmk : (Instr.makeMap 62 none).run Try.prog w = .ok (.map (some w.heap.size)) (w.alloc (.map #[] 0)) := rfl
  have hm := (MapF.made Try.prog 3 3 E w).fr ((Fr.refl [] (w.alloc (.map #[] 0))).alloc (.cells #[.int .i64 s, .slice none 0 0, .map (some w.heap.size)] 64)) (by simp)
  have hr := Row.new (w.alloc (.map #[] 0)) [.int .i64 s, .slice none 0 0, .map (some w.heap.size)] 64
  rw [show (w.alloc (.map #[] 0)).heap.size = w.heap.size + 1 by simp] at hr
  have HM := Lib.hid hm
  have HR := Lib.hid hr
  have F := Lib.hid ((((Fr.refl [] w).alloc (.map #[] 0)).alloc (.cells #[.int .i64 s, .slice none 0 0, .map (some w.heap.size)] 64)))
  clear hm hr hs
  go_enter Try.func8, Try.ntmps8
  go_wp2_with fail
  go_ret2
  exact ⟨rfl, ⟨HR.out, World.ownsRow_nil _ _ _ _, by rw [posM_nil]; exact HM.out, by omega, by omega, by omega⟩, F.out, by simp⟩
theorem hlen_any (E : ElemOf Try.prog 3 Int) (b m base n : Nat) (step : Int) (L : List ItD) (v : Value) (w : World) (h : HpAt E w b m base n step L v) :
    Calls Try.prog 19 #[.pointer (some ⟨b, 0, none⟩)] w fun e w' => e = .returned (.int .i64 L.length) ∧ w = w' := by
  obtain ⟨a, c, rfl⟩ : ∃ a c, v = .slice a L.length c := by
    rcases h.row.2 with ⟨rfl, h0⟩ | ⟨g, cap, cur, rfl, _⟩
    · exact ⟨_, _, by rw [h0]⟩
    · exact ⟨_, _, rfl⟩
  have c1 : w.cell? ⟨b, 1, none⟩ = some (.slice a L.length c) := h.head.cell 1
  clear h
  go_enter Try.func19, Try.ntmps19
  go_wp2_with fail
  go_ret
  exact ⟨rfl, rfl⟩
theorem has_any (E : ElemOf Try.prog 3 Int) (b m base n : Nat) (step : Int) (L : List ItD) (v : Value) (w : World) (h : HpAt E w b m base n step L v) (x : Int) (hx : inI x) :
    Calls Try.prog 20 #[.pointer (some ⟨b, 0, none⟩), .int .i64 x] w fun e w' => e = .returned (.bool (posM L x).isSome) ∧ w = w' := by
  have c2 : w.cell? ⟨b, 2, none⟩ = some (.map (some m)) := h.head.cell 2
  have hlk := h.map.look (t := 62) Try.underlying3 Try.underlying62 hx
  generalize E.val ((posM L x).getD E.zero) = z at hlk
  generalize (posM L x).isSome = B at hlk ⊢
  clear h
  go_enter Try.func20, Try.ntmps20
  go_wp2_with fail
  go_ret
  exact ⟨rfl, rfl⟩
end Go.Proofs.Ytpjmmhpkiepbmaa

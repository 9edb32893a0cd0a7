/- Items that wait, as plain data; which comes ahead. -/
import Derived.Test.YtpjmmhpkiepbmaaProg
import Derived.Test.YtpjmmhpkiepbmaaMem
import Derived.Test.YtpjmmhpkiepbmaaMaps
import Derived.Deep.LoopGhost
import Derived.Deep.DeepCutAuto
import Derived.Deep.RegionHeldLaw
import Derived.StillTailTactics
import Derived.Laws.AppendOwn
import Derived.Laws.OwnMore
set_option linter.unusedVariables false
set_option linter.unusedSimpArgs false
namespace Go.Proofs.Ytpjmmhpkiepbmaa
open Go.RowKit
structure ItD where
  id : Int
  base : Int
  since : Int
deriving DecidableEq, Inhabited
def ItD.cells (x : ItD) : List Value := [.int .i64 x.id, .int .i64 x.base, .int .i64 x.since]
def ItD.val (x : ItD) : Value := .agg #[.int .i64 x.id, .int .i64 x.base, .int .i64 x.since]
/-- It may wait: Base and Since in bounds. -/
def ItD.ok (x : ItD) : Prop := 0 ≤ x.base ∧ x.base ≤ 9 ∧ 0 ≤ x.since ∧ x.since ≤ 1099511627776
def stepOk (s : Int) : Prop := 1 ≤ s ∧ s ≤ 1048576
def weight (s : Int) (x : ItD) : Int := x.base * s - x.since
def aheadB (s : Int) (x y : ItD) : Bool := decide (weight s x > weight s y) || (decide (weight s x = weight s y) && decide (x.id < y.id))
theorem ret_bool {a b : Bool} (h : a = b) : Ending.returned (.bool a) = Ending.returned (.bool b) := by rw [h]
theorem cell_fr {w w' : World} {p : Addr} {v : Value} (h : w.cell? p = some v) (f : Fr [] w w') : w'.cell? p = some v := by
  rw [World.cell?_of_block (f.block p.block (World.block_lt_of_cell? w p h) (by simp))]; exact h
theorem prod_in {s b : Int} (hs : stepOk s) (hb0 : 0 ≤ b) (hb9 : b ≤ 9) : 0 ≤ b * s ∧ b * s ≤ 9437184 := by
  obtain ⟨h1, h2⟩ := hs
  refine ⟨Int.mul_nonneg hb0 (by omega), ?_⟩
  calc b * s ≤ 9 * s := Int.mul_le_mul_of_nonneg_right hb9 (by omega)
    _ ≤ 9437184 := by omega
theorem wrap_in {n : Int} (h : -9223372036854775808 ≤ n ∧ n ≤ 9223372036854775807) : IntKind.i64.wrap n = n := by
  unfold IntKind.wrap
  simp only [IntKind.signed, IntKind.bits, IntKind.min, IntKind.max]
  first | omega | (simp; omega)
set_option maxRecDepth 100000 in
set_option maxHeartbeats 1000000 in
theorem ahead_eq (b : Nat) (s : Int) (x y : ItD) (w : World) (hs : w.cell? ⟨b, 0, none⟩ = some (.int .i64 s)) (hok : stepOk s) (hx : x.ok) (hy : y.ok) :
    Calls Try.prog 31 #[.pointer (some ⟨b, 0, none⟩), x.val, y.val] w fun e w' => e = .returned (.bool (aheadB s x y)) ∧ w' = ((w.alloc (.cells #[.int .i64 x.id, .int .i64 x.base, .int .i64 x.since] 32)).alloc (.cells #[.int .i64 y.id, .int .i64 y.base, .int .i64 y.since] 32)).drew := by
  have hr := ((Fr.refl [] w).alloc (.cells #[.int .i64 x.id, .int .i64 x.base, .int .i64 x.since] 32)).alloc (.cells #[.int .i64 y.id, .int .i64 y.base, .int .i64 y.since] 32)
  have r1 := (Row.new w [.int .i64 x.id, .int .i64 x.base, .int .i64 x.since] 32).alloc (.cells #[.int .i64 y.id, .int .i64 y.base, .int .i64 y.since] 32)
  have r2 := Row.new (w.alloc (.cells #[.int .i64 x.id, .int .i64 x.base, .int .i64 x.since] 32)) [.int .i64 y.id, .int .i64 y.base, .int .i64 y.since] 32
  have e1 : (w.alloc (.cells #[.int .i64 x.id, .int .i64 x.base, .int .i64 x.since] 32)).heap.size = w.heap.size + 1 := by simp
  rw [e1] at r2
  have HR := Lib.hid hr
  have R1 := Lib.hid r1
  have R2 := Lib.hid r2
  have c0 := cell_fr hs hr
  have px := prod_in hok hx.1 hx.2.1
  have py := prod_in hok hy.1 hy.2.1
  have hxs := hx.2.2
  have hys := hy.2.2
  have wx : weight s x = x.base * s - x.since := rfl
  have wy : weight s y = y.base * s - y.since := rfl
  have hab : aheadB s x y = (decide (weight s x > weight s y) || (decide (weight s x = weight s y) && decide (x.id < y.id))) := rfl
  rw [wx, wy] at hab
  generalize hpx : x.base * s = p at px hab
  generalize hpy : y.base * s = q at py hab
  have HPX := Lib.hid hpx
  have HPY := Lib.hid hpy
  have W1 : IntKind.i64.wrap (x.base * s) = p := by rw [hpx]; exact wrap_in (by omega)
  have W2 : IntKind.i64.wrap (y.base * s) = q := by rw [hpy]; exact wrap_in (by omega)
  have W3 : IntKind.i64.wrap (p - x.since) = p - x.since := wrap_in (by omega)
  have W4 : IntKind.i64.wrap (q - y.since) = q - y.since := wrap_in (by omega)
  have HAB := Lib.hid hab
  clear hr r1 r2 e1 wx wy hab hpx hpy px py hxs hys
  simp only [ItD.val]
  go_enter Try.func31, Try.ntmps31
  go_wp2_with fail
  generalize hW : (w.alloc (.cells #[.int .i64 x.id, .int .i64 x.base, .int .i64 x.since] 32)).alloc (.cells #[.int .i64 y.id, .int .i64 y.base, .int .i64 y.since] 32) = W0 at HR R1 R2 c0 ⊢
  have HW := Lib.hid hW
  clear hW
  have c1 : W0.cell? ⟨w.heap.size, 1, none⟩ = some (.int .i64 x.base) := R1.out.cell 1
  have c2 : W0.cell? ⟨w.heap.size, 2, none⟩ = some (.int .i64 x.since) := R1.out.cell 2
  have c3 : W0.cell? ⟨w.heap.size + 1, 1, none⟩ = some (.int .i64 y.base) := R2.out.cell 1
  have c4 : W0.cell? ⟨w.heap.size + 1, 2, none⟩ = some (.int .i64 y.since) := R2.out.cell 2
  have c5 : W0.cell? ⟨w.heap.size, 0, none⟩ = some (.int .i64 x.id) := R1.out.cell 0
  have c6 : W0.cell? ⟨w.heap.size + 1, 0, none⟩ = some (.int .i64 y.id) := R2.out.cell 0
  refine wp_region_held_drew (S := (fun w' => w'.cell? ⟨b, 0, none⟩ = some (.int .i64 s) ∧ w'.cell? ⟨w.heap.size, 1, none⟩ = some (.int .i64 x.base) ∧ w'.cell? ⟨w.heap.size, 2, none⟩ = some (.int .i64 x.since) ∧ w'.cell? ⟨w.heap.size + 1, 1, none⟩ = some (.int .i64 y.base) ∧ w'.cell? ⟨w.heap.size + 1, 2, none⟩ = some (.int .i64 y.since))) (by kernel_rfl) ⟨c0, c1, c2, c3, c4⟩ (fun hHeld => ?_)
  refine wpAnyH_take (i := 0) (v := ?_) rfl (by kernel_rfl) (by kernel_rfl) (by kernel_rfl) (fun _ _ _ h => h) (Or.inl ⟨rfl, ?_⟩) hHeld ?_
  rotate_left
  · (intro w hSw; (try dsimp only at hSw); go_simp; try (with_reducible rfl))
  simp only [List.getElem_toArray, List.getElem_cons_succ, List.getElem_cons_zero, Act.put, List.setIfInBounds_toArray, List.set_cons_zero, List.set_cons_succ]
  refine wpAnyH_take (i := 1) (v := ?_) rfl (by kernel_rfl) (by kernel_rfl) (by kernel_rfl) (fun _ _ _ h => h) (Or.inl ⟨rfl, ?_⟩) hHeld ?_
  rotate_left
  · (intro w hSw; (try dsimp only at hSw); go_simp; try (with_reducible rfl))
  simp only [List.getElem_toArray, List.getElem_cons_succ, List.getElem_cons_zero, Act.put, List.setIfInBounds_toArray, List.set_cons_zero, List.set_cons_succ]
  refine wpAnyH_take (i := 2) (v := ?_) rfl (by kernel_rfl) (by kernel_rfl) (by kernel_rfl) (fun _ _ _ h => h) (Or.inl ⟨rfl, ?_⟩) hHeld ?_
  rotate_left
  · (intro w hSw; (try dsimp only at hSw); go_simp; try (with_reducible rfl))
  simp only [List.getElem_toArray, List.getElem_cons_succ, List.getElem_cons_zero, Act.put, List.setIfInBounds_toArray, List.set_cons_zero, List.set_cons_succ]
  refine wpAnyH_take (i := 3) (v := ?_) rfl (by kernel_rfl) (by kernel_rfl) (by kernel_rfl) (fun _ _ _ h => h) (Or.inl ⟨rfl, ?_⟩) hHeld ?_
  rotate_left
  · (intro w hSw; (try dsimp only at hSw); go_simp; try (with_reducible rfl))
  simp only [List.getElem_toArray, List.getElem_cons_succ, List.getElem_cons_zero, Act.put, List.setIfInBounds_toArray, List.set_cons_zero, List.set_cons_succ]
  refine wpAnyH_take (i := 4) (v := ?_) rfl (by kernel_rfl) (by kernel_rfl) (by kernel_rfl) (fun _ _ _ h => h) (Or.inl ⟨rfl, ?_⟩) hHeld ?_
  rotate_left
  · (intro w hSw; (try dsimp only at hSw); go_simp; try (with_reducible rfl))
  simp only [List.getElem_toArray, List.getElem_cons_succ, List.getElem_cons_zero, Act.put, List.setIfInBounds_toArray, List.set_cons_zero, List.set_cons_succ]
  refine wpAnyH_take (i := 5) (v := ?_) rfl (by kernel_rfl) (by kernel_rfl) (by kernel_rfl) (fun _ _ _ h => h) (Or.inl ⟨rfl, ?_⟩) hHeld ?_
  rotate_left
  · (intro w hSw; (try dsimp only at hSw); go_simp; try (with_reducible rfl))
  simp only [List.getElem_toArray, List.getElem_cons_succ, List.getElem_cons_zero, Act.put, List.setIfInBounds_toArray, List.set_cons_zero, List.set_cons_succ]
  refine wpAnyH_take (i := 6) (v := ?_) rfl (by kernel_rfl) (by kernel_rfl) (by kernel_rfl) (fun _ _ _ h => h) (Or.inl ⟨rfl, ?_⟩) hHeld ?_
  rotate_left
  · (intro w hSw; (try dsimp only at hSw); go_simp; try (with_reducible rfl))
  simp only [List.getElem_toArray, List.getElem_cons_succ, List.getElem_cons_zero, Act.put, List.setIfInBounds_toArray, List.set_cons_zero, List.set_cons_succ]
  refine wpAnyH_take (i := 7) (v := ?_) rfl (by kernel_rfl) (by kernel_rfl) (by kernel_rfl) (fun _ _ _ h => h) (Or.inl ⟨rfl, ?_⟩) hHeld ?_
  rotate_left
  · (intro w hSw; (try dsimp only at hSw); go_simp; try (with_reducible rfl))
  simp only [List.getElem_toArray, List.getElem_cons_succ, List.getElem_cons_zero, Act.put, List.setIfInBounds_toArray, List.set_cons_zero, List.set_cons_succ]
  refine wpAnyH_take (i := 8) (v := ?_) rfl (by kernel_rfl) (by kernel_rfl) (by kernel_rfl) (fun _ _ _ h => h) (Or.inl ⟨rfl, ?_⟩) hHeld ?_
  rotate_left
  · (intro w hSw; (try dsimp only at hSw); go_simp; try (with_reducible rfl))
  simp only [List.getElem_toArray, List.getElem_cons_succ, List.getElem_cons_zero, Act.put, List.setIfInBounds_toArray, List.set_cons_zero, List.set_cons_succ]
  refine wpAnyH_take (i := 9) (v := ?_) rfl (by kernel_rfl) (by kernel_rfl) (by kernel_rfl) (fun _ _ _ h => h) (Or.inl ⟨rfl, ?_⟩) hHeld ?_
  rotate_left
  · (intro w hSw; (try dsimp only at hSw); go_simp; try (with_reducible rfl))
  simp only [List.getElem_toArray, List.getElem_cons_succ, List.getElem_cons_zero, Act.put, List.setIfInBounds_toArray, List.set_cons_zero, List.set_cons_succ]
  refine wpAnyH_take (i := 10) (v := ?_) rfl (by kernel_rfl) (by kernel_rfl) (by kernel_rfl) (fun _ _ _ h => h) (Or.inl ⟨rfl, ?_⟩) hHeld ?_
  rotate_left
  · (intro w hSw; (try dsimp only at hSw); go_simp; try (with_reducible rfl))
  simp only [List.getElem_toArray, List.getElem_cons_succ, List.getElem_cons_zero, Act.put, List.setIfInBounds_toArray, List.set_cons_zero, List.set_cons_succ]
  refine wpAnyH_take (i := 11) (v := ?_) rfl (by kernel_rfl) (by kernel_rfl) (by kernel_rfl) (fun _ _ _ h => h) (Or.inl ⟨rfl, ?_⟩) hHeld ?_
  rotate_left
  · (intro w hSw; (try dsimp only at hSw); go_simp; try (with_reducible rfl))
  simp only [List.getElem_toArray, List.getElem_cons_succ, List.getElem_cons_zero, Act.put, List.setIfInBounds_toArray, List.set_cons_zero, List.set_cons_succ]
  refine wpAnyH_take (i := 12) (v := ?_) rfl (by kernel_rfl) (by kernel_rfl) (by kernel_rfl) (fun _ _ _ h => h) (Or.inl ⟨rfl, ?_⟩) hHeld ?_
  rotate_left
  · (intro w hSw; (try dsimp only at hSw); go_simp; try (with_reducible rfl))
  simp only [List.getElem_toArray, List.getElem_cons_succ, List.getElem_cons_zero, Act.put, List.setIfInBounds_toArray, List.set_cons_zero, List.set_cons_succ]
  refine wpAnyH_take (i := 13) (v := ?_) rfl (by kernel_rfl) (by kernel_rfl) (by kernel_rfl) (fun _ _ _ h => h) (Or.inl ⟨rfl, ?_⟩) hHeld ?_
  rotate_left
  · (intro w hSw; (try dsimp only at hSw); go_simp; try (with_reducible rfl))
  simp only [List.getElem_toArray, List.getElem_cons_succ, List.getElem_cons_zero, Act.put, List.setIfInBounds_toArray, List.set_cons_zero, List.set_cons_succ]
  refine wpAnyH_take (i := 14) (v := ?_) rfl (by kernel_rfl) (by kernel_rfl) (by kernel_rfl) (fun _ _ _ h => h) (Or.inl ⟨rfl, ?_⟩) hHeld ?_
  rotate_left
  · (intro w hSw; (try dsimp only at hSw); go_simp; try (with_reducible rfl))
  simp only [List.getElem_toArray, List.getElem_cons_succ, List.getElem_cons_zero, Act.put, List.setIfInBounds_toArray, List.set_cons_zero, List.set_cons_succ]
  refine wpAnyH_take (i := 15) (v := ?_) rfl (by kernel_rfl) (by kernel_rfl) (by kernel_rfl) (fun _ _ _ h => h) (Or.inl ⟨rfl, ?_⟩) hHeld ?_
  rotate_left
  · (intro w hSw; (try dsimp only at hSw); go_simp; try (with_reducible rfl))
  simp only [List.getElem_toArray, List.getElem_cons_succ, List.getElem_cons_zero, Act.put, List.setIfInBounds_toArray, List.set_cons_zero, List.set_cons_succ]
  refine wpAnyH_take (i := 16) (v := ?_) rfl (by kernel_rfl) (by kernel_rfl) (by kernel_rfl) (fun _ _ _ h => h) (Or.inl ⟨rfl, ?_⟩) hHeld ?_
  rotate_left
  · (intro w hSw; (try dsimp only at hSw); go_simp; try (with_reducible rfl))
  simp only [List.getElem_toArray, List.getElem_cons_succ, List.getElem_cons_zero, Act.put, List.setIfInBounds_toArray, List.set_cons_zero, List.set_cons_succ]
  refine wpAnyH_take (i := 17) (v := ?_) rfl (by kernel_rfl) (by kernel_rfl) (by kernel_rfl) (fun _ _ _ h => h) (Or.inl ⟨rfl, ?_⟩) hHeld ?_
  rotate_left
  · (intro w hSw; (try dsimp only at hSw); go_simp; try (with_reducible rfl))
  simp only [List.getElem_toArray, List.getElem_cons_succ, List.getElem_cons_zero, Act.put, List.setIfInBounds_toArray, List.set_cons_zero, List.set_cons_succ]
  refine wpAnyH_take (i := 18) (v := ?_) rfl (by kernel_rfl) (by kernel_rfl) (by kernel_rfl) (fun _ _ _ h => h) (Or.inl ⟨rfl, ?_⟩) hHeld ?_
  rotate_left
  · (intro w hSw; (try dsimp only at hSw); go_simp; try (with_reducible rfl))
  simp only [List.getElem_toArray, List.getElem_cons_succ, List.getElem_cons_zero, Act.put, List.setIfInBounds_toArray, List.set_cons_zero, List.set_cons_succ]
  refine wpAnyH_take (i := 19) (v := ?_) rfl (by kernel_rfl) (by kernel_rfl) (by kernel_rfl) (fun _ _ _ h => h) (Or.inl ⟨rfl, ?_⟩) hHeld ?_
  rotate_left
  · (intro w hSw; (try dsimp only at hSw); go_simp; try (with_reducible rfl))
  simp only [List.getElem_toArray, List.getElem_cons_succ, List.getElem_cons_zero, Act.put, List.setIfInBounds_toArray, List.set_cons_zero, List.set_cons_succ]
  refine wpAnyH_take (i := 20) (v := ?_) rfl (by kernel_rfl) (by kernel_rfl) (by kernel_rfl) (fun _ _ _ h => h) (Or.inl ⟨rfl, ?_⟩) hHeld ?_
  rotate_left
  · (intro w hSw; (try dsimp only at hSw); go_simp; try (with_reducible rfl))
  simp only [List.getElem_toArray, List.getElem_cons_succ, List.getElem_cons_zero, Act.put, List.setIfInBounds_toArray, List.set_cons_zero, List.set_cons_succ]
  refine wpAnyH_take (i := 21) (v := ?_) rfl (by kernel_rfl) (by kernel_rfl) (by kernel_rfl) (fun _ _ _ h => h) (Or.inl ⟨rfl, ?_⟩) hHeld ?_
  rotate_left
  · (intro w hSw; (try dsimp only at hSw); go_simp; try (with_reducible rfl))
  simp only [List.getElem_toArray, List.getElem_cons_succ, List.getElem_cons_zero, Act.put, List.setIfInBounds_toArray, List.set_cons_zero, List.set_cons_succ]
  refine wpAnyH_done (by kernel_rfl) ?_ _
  clear W1 W2 W3 W4
  generalize hX : p - x.since = X at HAB ⊢
  generalize hY : q - y.since = Y at HAB ⊢
  clear hX hY
  by_cases h1 : X > Y
  · have d1 : decide (X > Y) = true := decide_eq_true h1
    have HA := Lib.hid (show aheadB s x y = true by rw [HAB.out, d1]; rfl)
    clear h1
    go_wp2_with fail
    go_ret
    exact ⟨ret_bool HA.out.symm, by rw [← HW.out]⟩
  have d1 : decide (X > Y) = false := decide_eq_false h1
  by_cases h2 : X = Y
  · have d2 : (X == Y) = true := beq_iff_eq.2 h2
    by_cases h3 : x.id < y.id
    · have d3 : decide (x.id < y.id) = true := decide_eq_true h3
      have HA := Lib.hid (show aheadB s x y = true by rw [HAB.out, decide_eq_true h2, d3]; simp)
      clear h1 h2 h3
      go_wp2_with fail
      go_ret
      exact ⟨ret_bool HA.out.symm, by rw [← HW.out]⟩
    · have d3 : decide (x.id < y.id) = false := decide_eq_false h3
      have HA := Lib.hid (show aheadB s x y = false by rw [HAB.out, d1, d3]; simp)
      clear h1 h2 h3
      go_wp2_with fail
      go_ret
      exact ⟨ret_bool HA.out.symm, by rw [← HW.out]⟩
  · have d2 : (X == Y) = false := beq_eq_false_iff_ne.2 h2
    have HA := Lib.hid (show aheadB s x y = false by rw [HAB.out, d1, decide_eq_false h2]; rfl)
    clear h1 h2
    go_wp2_with fail
    go_ret
    exact ⟨ret_bool HA.out.symm, by rw [← HW.out]⟩
theorem ahead_any (b : Nat) (s : Int) (x y : ItD) (w : World) (hs : w.cell? ⟨b, 0, none⟩ = some (.int .i64 s)) (hok : stepOk s) (hx : x.ok) (hy : y.ok) :
    Calls Try.prog 31 #[.pointer (some ⟨b, 0, none⟩), x.val, y.val] w fun e w' => e = .returned (.bool (aheadB s x y)) ∧ Fr [] w w' :=
  (ahead_eq b s x y w hs hok hx hy).mono fun e w' ⟨he, hw⟩ => ⟨he, by subst hw; exact ((((Fr.refl [] w).alloc _).alloc _).drew)⟩
end Go.Proofs.Ytpjmmhpkiepbmaa

/- The document's heap: an item put. (Printed by genrh4.py.) -/
import Derived.Test.YtpjmmhpkiepbmaaRH3
import Derived.Test.YtpjmmhpkiepbmaaRegL
set_option linter.unusedVariables false
set_option linter.unusedSimpArgs false
namespace Go.Proofs.Ytpjmmhpkiepbmaa
open Go.RowKit
theorem rput_range (b : Nat) (x : ItD) (w : World) (hx : ¬ x.ok) : Calls Try.prog 11 #[.pointer (some ⟨b, 0, none⟩), x.val] w fun e w' => e = .returned (.int .i64 3) ∧ Fr [] w w' := by
  have F := Lib.hid ((Fr.refl [] w).alloc (.cells #[.int .i64 x.id, .int .i64 x.base, .int .i64 x.since] 37))
  unfold ItD.ok at hx
  simp only [ItD.val]
  by_cases h1 : x.base < 0
  · have d1 : decide (x.base < 0) = true := decide_eq_true h1
    clear hx h1
    go_enter Try.func11, Try.ntmps11
    go_wp2_with fail
    go_ret
    exact ⟨rfl, F.out⟩
  have d1 : decide (x.base < 0) = false := decide_eq_false h1
  by_cases h2 : x.base > 9
  · have d2 : decide (x.base > 9) = true := decide_eq_true h2
    clear hx h1 h2
    go_enter Try.func11, Try.ntmps11
    go_wp2_with fail
    go_ret
    exact ⟨rfl, F.out⟩
  have d2 : decide (x.base > 9) = false := decide_eq_false h2
  by_cases h3 : x.since < 0
  · have d3 : decide (x.since < 0) = true := decide_eq_true h3
    clear hx h1 h2 h3
    go_enter Try.func11, Try.ntmps11
    go_wp2_with fail
    go_ret
    exact ⟨rfl, F.out⟩
  have d3 : decide (x.since < 0) = false := decide_eq_false h3
  have d4 : decide (x.since > 1099511627776) = true := decide_eq_true (by omega)
  clear hx h1 h2 h3
  go_enter Try.func11, Try.ntmps11
  go_wp2_with fail
  go_ret
  exact ⟨rfl, F.out⟩
theorem rput_twice (b base : Nat) (s : Int) (L : List ItD) (v : Value) (x : ItD) (w : World) (h : RhAt w b base s L v) (hg : Good s L) (hx : x.ok) (ht : hasI L x.id = true) :
    Calls Try.prog 11 #[.pointer (some ⟨b, 0, none⟩), x.val] w fun e w' => e = .returned (.int .i64 6) ∧ Fr [] w w' := by
  have hf := (Fr.refl [] w).alloc (.cells #[.int .i64 x.id, .int .i64 x.base, .int .i64 x.since] 37)
  have F := Lib.hid hf
  have C1 := rhas_any b base s L v x.id _ (h.fr hf) hg.nd hg.few
  rw [ht] at C1
  have d1 : decide (x.base < 0) = false := decide_eq_false (by have := hx.1; omega)
  have d2 : decide (x.base > 9) = false := decide_eq_false (by have := hx.2.1; omega)
  have d3 : decide (x.since < 0) = false := decide_eq_false (by have := hx.2.2.1; omega)
  have d4 : decide (x.since > 1099511627776) = false := decide_eq_false (by have := hx.2.2.2; omega)
  simp only [ItD.val]
  clear hf h hg hx ht
  go_enter Try.func11, Try.ntmps11
  go_wp2_with fail
  refine C1.mono ?_
  rintro e w2 ⟨rfl, rfl⟩
  go_wp2_with fail
  go_ret
  exact ⟨rfl, F.out⟩
theorem rput_many (b base : Nat) (s : Int) (L : List ItD) (v : Value) (x : ItD) (w : World) (h : RhAt w b base s L v) (hg : Good s L) (hx : x.ok) (ht : hasI L x.id = false) (hl : L.length = 1000) :
    Calls Try.prog 11 #[.pointer (some ⟨b, 0, none⟩), x.val] w fun e w' => e = .returned (.int .i64 4) ∧ Fr [] w w' := by
  have hf := (Fr.refl [] w).alloc (.cells #[.int .i64 x.id, .int .i64 x.base, .int .i64 x.since] 37)
  have F := Lib.hid hf
  have C1 := rhas_any b base s L v x.id _ (h.fr hf) hg.nd hg.few
  rw [ht] at C1
  obtain ⟨a, c, rfl⟩ := rh_slice h
  have c1 : (w.alloc (.cells #[.int .i64 x.id, .int .i64 x.base, .int .i64 x.since] 37)).cell? ⟨b, 1, none⟩ = some (.slice a L.length c) := (h.fr hf).head.cell 1
  have d1 : decide (x.base < 0) = false := decide_eq_false (by have := hx.1; omega)
  have d2 : decide (x.base > 9) = false := decide_eq_false (by have := hx.2.1; omega)
  have d3 : decide (x.since < 0) = false := decide_eq_false (by have := hx.2.2.1; omega)
  have d4 : decide (x.since > 1099511627776) = false := decide_eq_false (by have := hx.2.2.2; omega)
  have de : decide ((L.length : Int) ≥ 1000) = true := decide_eq_true (by omega)
  simp only [ItD.val]
  clear hf h hg hx ht hl
  go_enter Try.func11, Try.ntmps11
  go_wp2_with fail
  refine C1.mono ?_
  rintro e w2 ⟨rfl, rfl⟩
  go_wp2_with fail
  go_ret
  exact ⟨rfl, F.out⟩
/-- The document's heap behind a change: its row a new one. -/
def RhNext (b base : Nat) (s : Int) (L : List ItD) (v : Value) (w w' : World) : Prop :=
  ∃ v', RhAt w' b base s L v' ∧ Fr [b] w w' ∧ ∀ y, v'.ownBlock = some y → v.ownBlock = some y ∨ w.heap.size ≤ y
set_option maxRecDepth 100000 in
set_option maxHeartbeats 8000000 in
theorem rput_ok (b base : Nat) (s : Int) (L : List ItD) (v : Value) (x : ItD) (w : World) (h : RhAt w b base s L v) (hg : Good s L) (hx : x.ok) (ht : hasI L x.id = false) (hl : L.length < 1000) (hbase : base ≤ w.heap.size) :
    Calls Try.prog 11 #[.pointer (some ⟨b, 0, none⟩), x.val] w fun e w' => e = .returned (.int .i64 0) ∧ RhNext b base s (insL s L x) v w w' := by
  have hf := (Fr.refl [] w).alloc (.cells #[.int .i64 x.id, .int .i64 x.base, .int .i64 x.since] 37)
  have F := Lib.hid hf
  have C1 := rhas_any b base s L v x.id _ (h.fr hf) hg.nd hg.few
  rw [ht] at C1
  have d1 : decide (x.base < 0) = false := decide_eq_false (by have := hx.1; omega)
  have d2 : decide (x.base > 9) = false := decide_eq_false (by have := hx.2.1; omega)
  have d3 : decide (x.since < 0) = false := decide_eq_false (by have := hx.2.2.1; omega)
  have d4 : decide (x.since > 1099511627776) = false := decide_eq_false (by have := hx.2.2.2; omega)
  have de : decide ((L.length : Int) ≥ 1000) = false := decide_eq_false (by omega)
  obtain ⟨a, c, rfl⟩ := rh_slice h
  have H := Lib.hid (h.fr hf)
  have G := Lib.hid hg
  have HX := Lib.hid (Row.new w [.int .i64 x.id, .int .i64 x.base, .int .i64 x.since] 37)
  have HOK := Lib.hid hx
  have D1 := Lib.hid C1
  have hsz : (w.alloc (.cells #[.int .i64 x.id, .int .i64 x.base, .int .i64 x.since] 37)).heap.size = w.heap.size + 1 := by simp
  have HSZ := Lib.hid hsz
  have hbl := h.bl
  have HW0 := Lib.hid (fun y hy => (h.row.lt y hy) : ∀ y, (Value.slice a L.length c).ownBlock = some y → base ≤ y ∧ y < w.heap.size)
  simp only [ItD.val]
  clear hf h hg hx ht C1 hsz
  go_enter Try.func11, Try.ntmps11
  go_wp2_with fail
  refine D1.out.mono ?_
  rintro e w2 ⟨rfl, hw2⟩
  rw [← hw2]
  clear hw2 D1
  generalize w.alloc (.cells #[.int .i64 x.id, .int .i64 x.base, .int .i64 x.since] 37) = W1 at F H HX HSZ ⊢
  have c1 : W1.cell? ⟨b, 1, none⟩ = some (.slice a L.length c) := H.out.head.cell 1
  go_wp2_with fail
  clear c1
  go_loopg [5] L.length (fun k i wr => ∃ j : Nat, k = L.length - j ∧ j ≤ L.length ∧ i = .int .i64 j ∧ (∀ q, q < j → aheadB s (L.getD q default) x = true) ∧ Fr [] W1 wr)
  case atStart => exact ⟨0, rfl, by omega, rfl, (fun q hq => by omega), Fr.refl [] _⟩
  case round =>
    obtain ⟨j, rfl, hj, rfl, hal, hfr⟩ := hrel
    have HAL := Lib.hid hal
    have HF := Lib.hid hfr
    clear hal hfr
    have c1 : wr.cell? ⟨b, 1, none⟩ = some (.slice a L.length c) := (H.out.fr HF.out).head.cell 1
    have x0 : wr.cell? ⟨w.heap.size, 0, none⟩ = some (.int .i64 x.id) := (HX.out.fr HF.out (by simp)).cell 0
    have x1 : wr.cell? ⟨w.heap.size, 1, none⟩ = some (.int .i64 x.base) := (HX.out.fr HF.out (by simp)).cell 1
    have x2 : wr.cell? ⟨w.heap.size, 2, none⟩ = some (.int .i64 x.since) := (HX.out.fr HF.out (by simp)).cell 2
    have j0 : (0 : Int) ≤ (j : Int) := by omega
    by_cases hlt : j < L.length
    · have e1 : decide (j < L.length) = true := decide_eq_true hlt
      have j1 : (j : Int) < (L.length : Int) := by omega
      obtain ⟨g, cap, C, hv, _, _, hR⟩ := own_row37 (H.out.fr HF.out).row (by omega)
      cases hv
      have a0 : wr.cell? ⟨g, j * 3, none⟩ = some (.int .i64 (L.getD j default).id) := row37_at hR hlt 0 (by omega)
      have a1 : wr.cell? ⟨g, j * 3 + 1, none⟩ = some (.int .i64 (L.getD j default).base) := row37_at hR hlt 1 (by omega)
      have a2 : wr.cell? ⟨g, j * 3 + 2, none⟩ = some (.int .i64 (L.getD j default).since) := row37_at hR hlt 2 (by omega)
      have hyok := G.out.ok _ (getD_mem L j hlt)
      have C2 := rahead_any b s (L.getD j default) x (wr.drewN 1) ((H.out.fr HF.out).head.cell 0) G.out.step hyok HOK.out
      simp only [ItD.val] at C2
      have HNX := Lib.hid (fun (hy : aheadB s (L.getD j default) x = true) q (hq : q < j + 1) => (by
        by_cases hqj : q = j
        · rw [hqj]; exact hy
        · exact HAL.out q (by omega) : aheadB s (L.getD q default) x = true))
      clear hR hyok
      generalize hyy : L.getD j default = y at *
      have HYY := Lib.hid hyy
      clear hyy
      have D2 := Lib.hid C2
      clear C2
      go_wp2_with fail
      refine wp_region_still_tail 17 (by kernel_rfl) (by kernel_rfl) ?_
      simp only [List.take_succ_cons, List.take_zero, List.drop_succ_cons, List.drop_zero]
      repeat still_step
      refine wpStill_nil ?_
      go_wp2_with fail
      refine D2.out.mono ?_
      rintro e w5 ⟨rfl, f5⟩
      have F5 := Lib.hid ((HF.out.drewN 1).trans f5 (fun y hy => .inl hy))
      clear f5 D2 a0 a1 a2
      cases hb : aheadB s y x with
      | true =>
        have HN := Lib.hid (HNX.out hb)
        clear HNX hb c1 x0 x1 x2
        go_wp2_with fail
        go_roundg (L.length - (j + 1))
        case measure => omega
        case rel => exact ⟨j + 1, rfl, by omega, rfl, HN.out, F5.out⟩
      | false =>
        have HIN := Lib.hid (insAt_eq (s := s) (x := x) hj HAL.out (fun _ => HYY.out.symm ▸ hb))
        clear HNX hb c1 x0 x1 x2 hlt e1 j1 HYY
        go_wp2_with fail
        obtain ⟨wz, rfl⟩ : ∃ z, z = w5 := ⟨_, rfl⟩
        have HZ := Lib.hid F5.out.drew
        clear F5
        obtain ⟨A2, hlo, hhi, HI1, HI2⟩ := rh_cut H.out hj
        have KEEP := Lib.hid (fun W' (f : Fr [] W1 W') => ⟨(H.out.fr f).head.cell 1, (HX.out.fr f (by simp)).cell 0, (HX.out.fr f (by simp)).cell 1, (HX.out.fr f (by simp)).cell 2⟩ : ∀ W', Fr [] W1 W' → (W'.cell? ⟨b, 1, none⟩ = some (.slice (some ⟨g, 0, none⟩) L.length c) ∧ W'.cell? ⟨w.heap.size, 0, none⟩ = some (.int .i64 x.id) ∧ W'.cell? ⟨w.heap.size, 1, none⟩ = some (.int .i64 x.base) ∧ W'.cell? ⟨w.heap.size, 2, none⟩ = some (.int .i64 x.since)))
        refine wp_region_last (S := (fun w' => w'.cell? ⟨b, 1, none⟩ = some (.slice (some ⟨g, 0, none⟩) L.length c) ∧ w'.cell? ⟨w.heap.size, 0, none⟩ = some (.int .i64 x.id) ∧ w'.cell? ⟨w.heap.size, 1, none⟩ = some (.int .i64 x.base) ∧ w'.cell? ⟨w.heap.size, 2, none⟩ = some (.int .i64 x.since))) 21 (by kernel_rfl) (KEEP.out _ HZ.out) (fun hHeld => ?_)
        generalize wz.drew = wd at HZ hHeld ⊢
        have hzs : W1.heap.size ≤ wd.heap.size := HZ.out.size
        refine wpAnyL_take (i := 0) (v := ?_) rfl (by kernel_rfl) (by kernel_rfl) (by kernel_rfl) (by kernel_rfl) (fun _ _ _ h => h) (Or.inl ⟨rfl, ?_⟩) hHeld ?_
        rotate_left
        · (intro w hSw; (try dsimp only at hSw); go_simp; try (with_reducible rfl))
        simp only [List.getElem_toArray, List.getElem_cons_succ, List.getElem_cons_zero, Act.put, List.setIfInBounds_toArray, List.set_cons_zero, List.set_cons_succ]
        refine wpAnyL_take (i := 2) (v := ?_) rfl (by kernel_rfl) (by kernel_rfl) (by kernel_rfl) (by kernel_rfl) (fun _ _ _ h => h) (Or.inl ⟨rfl, ?_⟩) hHeld ?_
        rotate_left
        · (intro w hSw; (try dsimp only at hSw); go_simp; try (with_reducible rfl))
        simp only [List.getElem_toArray, List.getElem_cons_succ, List.getElem_cons_zero, Act.put, List.setIfInBounds_toArray, List.set_cons_zero, List.set_cons_succ]
        refine wpAnyL_take (i := 3) (v := ?_) rfl (by kernel_rfl) (by kernel_rfl) (by kernel_rfl) (by kernel_rfl) (fun _ _ _ h => h) (Or.inl ⟨rfl, ?_⟩) hHeld ?_
        rotate_left
        · (intro w hSw; (try dsimp only at hSw); go_simp; try (with_reducible rfl))
        simp only [List.getElem_toArray, List.getElem_cons_succ, List.getElem_cons_zero, Act.put, List.setIfInBounds_toArray, List.set_cons_zero, List.set_cons_succ]
        refine wpAnyL_take (i := 4) (v := ?_) rfl (by kernel_rfl) (by kernel_rfl) (by kernel_rfl) (by kernel_rfl) (fun _ _ _ h => h) (Or.inl ⟨rfl, ?_⟩) hHeld ?_
        rotate_left
        · (intro w hSw; (try dsimp only at hSw); go_simp; try (with_reducible rfl))
        simp only [List.getElem_toArray, List.getElem_cons_succ, List.getElem_cons_zero, Act.put, List.setIfInBounds_toArray, List.set_cons_zero, List.set_cons_succ]
        refine wpAnyL_take (i := 5) (v := ?_) rfl (by kernel_rfl) (by kernel_rfl) (by kernel_rfl) (by kernel_rfl) (fun _ _ _ h => h) (Or.inl ⟨rfl, ?_⟩) hHeld ?_
        rotate_left
        · (intro w hSw; (try dsimp only at hSw); go_simp; try (with_reducible rfl))
        simp only [List.getElem_toArray, List.getElem_cons_succ, List.getElem_cons_zero, Act.put, List.setIfInBounds_toArray, List.set_cons_zero, List.set_cons_succ]
        refine wpAnyL_take (i := 6) (v := ?_) rfl (by kernel_rfl) (by kernel_rfl) (by kernel_rfl) (by kernel_rfl) (fun _ _ _ h => h) (Or.inl ⟨rfl, ?_⟩) hHeld ?_
        rotate_left
        · (intro w hSw; (try dsimp only at hSw); go_simp; try (with_reducible rfl))
        simp only [List.getElem_toArray, List.getElem_cons_succ, List.getElem_cons_zero, Act.put, List.setIfInBounds_toArray, List.set_cons_zero, List.set_cons_succ]
        refine wpAnyL_take (i := 7) (v := ?_) rfl (by kernel_rfl) (by kernel_rfl) (by kernel_rfl) (by kernel_rfl) (fun _ _ _ h => h) (Or.inl ⟨rfl, ?_⟩) hHeld ?_
        rotate_left
        · (intro w hSw; (try dsimp only at hSw); go_simp; try (with_reducible rfl))
        simp only [List.getElem_toArray, List.getElem_cons_succ, List.getElem_cons_zero, Act.put, List.setIfInBounds_toArray, List.set_cons_zero, List.set_cons_succ]
        refine wpAnyL_take (i := 9) (v := ?_) rfl (by kernel_rfl) (by kernel_rfl) (by kernel_rfl) (by kernel_rfl) (fun _ _ _ h => h) (Or.inl ⟨rfl, ?_⟩) hHeld ?_
        rotate_left
        · (intro w hSw; (try dsimp only at hSw); go_simp; try (with_reducible rfl))
        simp only [List.getElem_toArray, List.getElem_cons_succ, List.getElem_cons_zero, Act.put, List.setIfInBounds_toArray, List.set_cons_zero, List.set_cons_succ]
        refine wpAnyL_take (i := 12) (v := ?_) rfl (by kernel_rfl) (by kernel_rfl) (by kernel_rfl) (by kernel_rfl) (fun _ _ _ h => h) (Or.inl ⟨rfl, ?_⟩) hHeld ?_
        rotate_left
        · (intro w hSw; (try dsimp only at hSw); go_simp; try (with_reducible rfl))
        simp only [List.getElem_toArray, List.getElem_cons_succ, List.getElem_cons_zero, Act.put, List.setIfInBounds_toArray, List.set_cons_zero, List.set_cons_succ]
        refine wpAnyL_take (i := 13) (v := ?_) rfl (by kernel_rfl) (by kernel_rfl) (by kernel_rfl) (by kernel_rfl) (fun _ _ _ h => h) (Or.inl ⟨rfl, ?_⟩) hHeld ?_
        rotate_left
        · (intro w hSw; (try dsimp only at hSw); go_simp; try (with_reducible rfl))
        simp only [List.getElem_toArray, List.getElem_cons_succ, List.getElem_cons_zero, Act.put, List.setIfInBounds_toArray, List.set_cons_zero, List.set_cons_succ]
        refine wpAnyL_take (i := 14) (v := ?_) rfl (by kernel_rfl) (by kernel_rfl) (by kernel_rfl) (by kernel_rfl) (fun _ _ _ h => h) (Or.inl ⟨rfl, ?_⟩) hHeld ?_
        rotate_left
        · (intro w hSw; (try dsimp only at hSw); go_simp; try (with_reducible rfl))
        simp only [List.getElem_toArray, List.getElem_cons_succ, List.getElem_cons_zero, Act.put, List.setIfInBounds_toArray, List.set_cons_zero, List.set_cons_succ]
        refine wpAnyL_take (i := 15) (v := ?_) rfl (by kernel_rfl) (by kernel_rfl) (by kernel_rfl) (by kernel_rfl) (fun _ _ _ h => h) (Or.inl ⟨rfl, ?_⟩) hHeld ?_
        rotate_left
        · (intro w hSw; (try dsimp only at hSw); go_simp; try (with_reducible rfl))
        simp only [List.getElem_toArray, List.getElem_cons_succ, List.getElem_cons_zero, Act.put, List.setIfInBounds_toArray, List.set_cons_zero, List.set_cons_succ]
        refine wpAnyL_take (i := 16) (v := ?_) rfl (by kernel_rfl) (by kernel_rfl) (by kernel_rfl) (by kernel_rfl) (fun _ _ _ h => h) (Or.inl ⟨rfl, ?_⟩) hHeld ?_
        rotate_left
        · (intro w hSw; (try dsimp only at hSw); go_simp; try (with_reducible rfl))
        simp only [List.getElem_toArray, List.getElem_cons_succ, List.getElem_cons_zero, Act.put, List.setIfInBounds_toArray, List.set_cons_zero, List.set_cons_succ]
        refine wpAnyL_take (i := 17) (v := ?_) rfl (by kernel_rfl) (by kernel_rfl) (by kernel_rfl) (by kernel_rfl) (fun _ _ _ h => h) (Or.inl ⟨rfl, ?_⟩) hHeld ?_
        rotate_left
        · (intro w hSw; (try dsimp only at hSw); go_simp; try (with_reducible rfl))
        simp only [List.getElem_toArray, List.getElem_cons_succ, List.getElem_cons_zero, Act.put, List.setIfInBounds_toArray, List.set_cons_zero, List.set_cons_succ]
        clear hlo hhi
        have KEEP2 := Lib.hid (fun W' (f : Fr [] wd W') => KEEP.out W' (HZ.out.trans f (fun y hy => .inl hy)))
        have HJ1 := Lib.hid (fun W' (f : Fr [] wd W') => HI1 W' (HZ.out.trans f (fun y hy => .inl hy)))
        have HJ2 := Lib.hid (fun W' (f : Fr [] wd W') => HI2 W' (HZ.out.trans f (fun y hy => .inl hy)))
        clear HI1 HI2
        refine wpAnyL_ready (rs := [1, 10]) (by kernel_rfl) (by simp) ?_
        refine AllReadyL.cons rfl (fun K hK => ?_) (AllReadyL.cons rfl (fun K hK => ?_) AllReadyL.nil)
        · simp only [List.getElem_toArray, List.getElem_cons_succ, List.getElem_cons_zero]
          go_simp
          refine hK.out _ _ (KEEP2.out _ ((Fr.refl [] wd).alloc _)) (fun hHeld => ?_)
          clear hK K
          try simp only [List.getElem_toArray, List.getElem_cons_succ, List.getElem_cons_zero, Act.put, List.setIfInBounds_toArray, List.set_cons_zero, List.set_cons_succ]
          have OWN := Lib.hid (World.ownsRow_made (base := wd.heap.size) (e := 37) (size := 3) wd #[] 0 (Nat.le_refl _) (Nat.zero_le _) rfl)
          have FC := Lib.hid ((Fr.refl [] wd).alloc (.cells #[] 37))
          refine wpAnyL_ready (rs := [8, 10]) (by kernel_rfl) (by simp) ?_
          refine AllReadyL.cons rfl (fun K hK => ?_) (AllReadyL.cons rfl (fun K hK => ?_) AllReadyL.nil)
          · refine step_append_its rfl _ _ rfl wd.heap.size (.slice (some ⟨wd.heap.size, 0, none⟩) 0 0) [] rfl OWN.out _ j _ (L.take j) rfl (HJ1.out _ FC.out) (by simp; omega) (FC.out.size) ?_
            intro v1 w8 hown1 hgr1 hor1
            have F8 := Lib.hid (FC.out.trans (T := [wd.heap.size]) (fr_grown1 hgr1) (fun y hy => .inr (by simp at hy; omega)))
            refine hK.out _ _ (KEEP2.out _ (F8.out)) (fun hHeld => ?_)
            clear hK K
            try simp only [List.getElem_toArray, List.getElem_cons_succ, List.getElem_cons_zero, Act.put, List.setIfInBounds_toArray, List.set_cons_zero, List.set_cons_succ]
            have HV1 := Lib.hid (fun y hy => hown1.lt y hy : ∀ y, v1.ownBlock = some y → wd.heap.size ≤ y ∧ y < w8.heap.size)
            have OWN8 := Lib.hid hown1
            clear hown1 hgr1 hor1
            refine wpAnyL_ready (rs := [10]) (by kernel_rfl) (by simp) ?_
            refine AllReadyL.cons rfl (fun K hK => ?_) AllReadyL.nil
            simp only [List.getElem_toArray, List.getElem_cons_succ, List.getElem_cons_zero]
            go_simp
            refine hK.out _ _ (KEEP2.out _ (F8.out.alloc _)) (fun hHeld => ?_)
            clear hK K
            try simp only [List.getElem_toArray, List.getElem_cons_succ, List.getElem_cons_zero, Act.put, List.setIfInBounds_toArray, List.set_cons_zero, List.set_cons_succ]
            have OWN1 := Lib.hid (own_keep OWN8.out ((Fr.refl [] w8).alloc (.cells #[.int .i64 x.id, .int .i64 x.base, .int .i64 x.since] 37)) (by simp))
            have XI := Lib.hid (⟨rfl, fun _ => ⟨w8.heap.size, 0, rfl, fun i u hu => by rw [Nat.zero_add]; exact ((Row.new w8 [.int .i64 x.id, .int .i64 x.base, .int .i64 x.since] 37).cell i).trans hu⟩⟩ : ItemsAt (w8.alloc (.cells #[.int .i64 x.id, .int .i64 x.base, .int .i64 x.since] 37)) (some ⟨w8.heap.size, 0, none⟩) 1 [x])
            have FW := Lib.hid (F8.out.alloc (.cells #[.int .i64 x.id, .int .i64 x.base, .int .i64 x.since] 37))
            have NE := Lib.hid (fun y hy => ⟨(HV1.out y hy).1, by have := (HV1.out y hy).2; omega⟩ : ∀ y, v1.ownBlock = some y → wd.heap.size ≤ y ∧ y ≠ w8.heap.size)
            have hqq : wd.heap.size ≤ w8.heap.size := F8.out.size
            clear HV1 OWN8 F8 FC OWN
            generalize w8.alloc (.cells #[.int .i64 x.id, .int .i64 x.base, .int .i64 x.since] 37) = WC at *
            generalize w8.heap.size = q at *
            refine wpAnyL_ready (rs := [11]) (by kernel_rfl) (by simp) ?_
            refine AllReadyL.cons rfl (fun K hK => ?_) AllReadyL.nil
            refine step_append_its rfl _ _ rfl wd.heap.size v1 ([] ++ L.take j) rfl OWN1.out _ 1 _ [x] rfl XI.out (by simp; omega) (FW.out.size) ?_
            intro v2 w11 hown2 hgr2 hor2
            have F11 := Lib.hid (FW.out.trans (fr_grown hgr2) (fun y hy => .inr (by simp only [Option.mem_toList] at hy; exact (NE.out y hy).1)))
            refine hK.out _ _ (KEEP2.out _ F11.out) (fun hHeld => ?_)
            clear hK K
            try simp only [List.getElem_toArray, List.getElem_cons_succ, List.getElem_cons_zero, Act.put, List.setIfInBounds_toArray, List.set_cons_zero, List.set_cons_succ]
            have OWN2 := Lib.hid hown2
            clear hown2 hgr2 hor2
            refine wpAnyL_ready (rs := [18]) (by kernel_rfl) (by simp) ?_
            refine AllReadyL.cons rfl (fun K hK => ?_) AllReadyL.nil
            refine step_append_its rfl _ _ rfl wd.heap.size v2 (([] ++ L.take j) ++ [x]) rfl OWN2.out _ (L.length - j) _ (L.drop j) rfl (HJ2.out _ F11.out) (by simp; omega) (F11.out.size) ?_
            intro v3 w18 hown3 hgr3 hor3
            have F18 := Lib.hid (F11.out.trans (fr_grown hgr3) (fun y hy => .inr (by simp only [Option.mem_toList] at hy; exact (OWN2.out.lt y hy).1)))
            refine hK.out _ _ (KEEP2.out _ F18.out) (fun hHeld => ?_)
            clear hK K
            try simp only [List.getElem_toArray, List.getElem_cons_succ, List.getElem_cons_zero, Act.put, List.setIfInBounds_toArray, List.set_cons_zero, List.set_cons_succ]
            obtain ⟨k3, cap3, hv3, _, _⟩ := hown3.form (by simp; omega)
            obtain ⟨n3, hn3⟩ : ∃ n, n = ([] ++ L.take j ++ [x] ++ L.drop j).length := ⟨_, rfl⟩
            rw [← hn3] at hv3
            subst hv3
            have HN3 := Lib.hid hn3
            clear hn3
            have OWN3 := Lib.hid hown3
            clear hown3 hgr3 hor3
            refine wpAnyL_ready (rs := [19]) (by kernel_rfl) (by simp) ?_
            refine AllReadyL.cons rfl (fun K hK => ?_) AllReadyL.nil
            simp only [List.getElem_toArray, List.getElem_cons_succ, List.getElem_cons_zero]
            go_simp
            refine hK.out _ _ (hHeld) (fun hHeld => ?_)
            clear hK K
            try simp only [List.getElem_toArray, List.getElem_cons_succ, List.getElem_cons_zero, Act.put, List.setIfInBounds_toArray, List.set_cons_zero, List.set_cons_succ]
            refine wpAnyL_take (i := 20) (v := ?_) rfl (by kernel_rfl) (by kernel_rfl) (by kernel_rfl) (by kernel_rfl) (fun _ _ _ h => h) (Or.inl ⟨rfl, ?_⟩) hHeld ?_
            rotate_left
            · (intro w hSw; (try dsimp only at hSw); go_simp; try (with_reducible rfl))
            simp only [List.getElem_toArray, List.getElem_cons_succ, List.getElem_cons_zero, Act.put, List.setIfInBounds_toArray, List.set_cons_zero, List.set_cons_succ]
            have hf18 : Fr [] W1 w18 := HZ.out.trans F18.out (fun y hy => .inl hy)
            have hd18 := (H.out.fr hf18).head
            have y5 : w18.frozen? ⟨b, 1, none⟩ = false := hd18.frozen 1
            have z5 := hHeld.1
            have hwd : w.heap.size ≤ wd.heap.size := (F.out.trans HZ.out (fun y hy => .inl hy)).size
            have HFIN := Lib.hid (show RhNext b base s (insL s L x) (.slice (some ⟨g, 0, none⟩) L.length c) w (w18.setCell ⟨b, 1, none⟩ (.slice (some ⟨k3, 0, none⟩) n3 cap3)) by
              have hl3 : insL s L x = ([] ++ L.take j ++ [x]) ++ L.drop j := by unfold insL; rw [HIN.out, List.nil_append]
              rw [hl3]
              refine ⟨_, ⟨hd18.setCell 1 _, own_keep (own_low OWN3.out (by omega)) ((Fr.refl [b] w18).setCell (p := ⟨b, 1, none⟩) (.inl (by simp)) _) (fun y hy hyb => ?_), hbl⟩, ((F.out.trans hf18 (fun y hy => .inl hy)).mono (by simp)).setCell (.inl (by simp)) _, fun y hy => .inr (by have := (OWN3.out.lt y hy).1; omega)⟩
              have h1 := (OWN3.out.lt y hy).1
              simp at hyb
              omega)
            clear hf18 hd18
            refine wpAnyL_ready (rs := [21]) (by kernel_rfl) (by simp) ?_
            refine AllReadyL.end_ rfl (fun K hK => ?_)
            simp only [List.getElem_toArray, List.getElem_cons_succ, List.getElem_cons_zero]
            go_simp
            refine hK.out _ _ ?_
            clear hK K
            try simp only [List.getElem_toArray, List.getElem_cons_succ, List.getElem_cons_zero, Act.put, List.setIfInBounds_toArray, List.set_cons_zero, List.set_cons_succ]
            refine wpAnyL_done (by kernel_rfl) ?_ _
            clear hHeld y5 z5
            go_wp2_with fail
            go_ret
            exact ⟨rfl, HFIN.out⟩
          · simp only [List.getElem_toArray, List.getElem_cons_succ, List.getElem_cons_zero]
            go_simp
            refine hK.out _ _ (KEEP2.out _ (FC.out.alloc _)) (fun hHeld => ?_)
            clear hK K
            try simp only [List.getElem_toArray, List.getElem_cons_succ, List.getElem_cons_zero, Act.put, List.setIfInBounds_toArray, List.set_cons_zero, List.set_cons_succ]
            have OWN8 := Lib.hid (own_keep OWN.out ((Fr.refl [] (wd.alloc (.cells #[] 37))).alloc (.cells #[.int .i64 x.id, .int .i64 x.base, .int .i64 x.since] 37)) (by simp))
            have FC2 := Lib.hid (FC.out.alloc (.cells #[.int .i64 x.id, .int .i64 x.base, .int .i64 x.since] 37))
            have hrq := Row.new (wd.alloc (.cells #[] 37)) [.int .i64 x.id, .int .i64 x.base, .int .i64 x.since] 37
            rw [show (wd.alloc (.cells #[] 37)).heap.size = wd.heap.size + 1 by simp] at hrq
            have XI := Lib.hid (⟨rfl, fun _ => ⟨wd.heap.size + 1, 0, rfl, fun i u hu => by rw [Nat.zero_add]; exact (hrq.cell i).trans hu⟩⟩ : ItemsAt ((wd.alloc (.cells #[] 37)).alloc (.cells #[.int .i64 x.id, .int .i64 x.base, .int .i64 x.since] 37)) (some ⟨wd.heap.size + 1, 0, none⟩) 1 [x])
            clear hrq
            refine wpAnyL_ready (rs := [8]) (by kernel_rfl) (by simp) ?_
            refine AllReadyL.cons rfl (fun K hK => ?_) AllReadyL.nil
            refine step_append_its rfl _ _ rfl wd.heap.size (.slice (some ⟨wd.heap.size, 0, none⟩) 0 0) [] rfl OWN8.out _ j _ (L.take j) rfl (HJ1.out _ FC2.out) (by simp; omega) (FC2.out.size) ?_
            intro v1 w8 hown1 hgr1 hor1
            have F8 := Lib.hid (FC2.out.trans (T := [wd.heap.size]) (fr_grown1 hgr1) (fun y hy => .inr (by simp at hy; omega)))
            refine hK.out _ _ (KEEP2.out _ (F8.out)) (fun hHeld => ?_)
            clear hK K
            try simp only [List.getElem_toArray, List.getElem_cons_succ, List.getElem_cons_zero, Act.put, List.setIfInBounds_toArray, List.set_cons_zero, List.set_cons_succ]
            have OWN1 := Lib.hid hown1
            have XJ := Lib.hid (XI.out.fr (S := [wd.heap.size]) (fr_grown1 hgr1) (fun g' o' he => by cases he; simp))
            have FW := Lib.hid F8.out
            have NE := Lib.hid (fun y hy => by
          have h1 := (hown1.lt y hy).1
          refine ⟨h1, fun hyq => ?_⟩
          rcases hor1 with h2 | h2
          · rw [h2] at hy; simp [Value.ownBlock] at hy; omega
          · rw [h2] at hy; simp at hy; omega : ∀ y, v1.ownBlock = some y → wd.heap.size ≤ y ∧ y ≠ wd.heap.size + 1)
            have hqq : wd.heap.size ≤ wd.heap.size + 1 := by omega
            clear hown1 hgr1 hor1 XI F8 OWN8 FC2 FC
            obtain ⟨WC, rfl⟩ : ∃ z, z = w8 := ⟨_, rfl⟩
            have XI := Lib.hid XJ.out
            clear XJ
            generalize wd.heap.size + 1 = q at *
            clear OWN
            refine wpAnyL_ready (rs := [11]) (by kernel_rfl) (by simp) ?_
            refine AllReadyL.cons rfl (fun K hK => ?_) AllReadyL.nil
            refine step_append_its rfl _ _ rfl wd.heap.size v1 ([] ++ L.take j) rfl OWN1.out _ 1 _ [x] rfl XI.out (by simp; omega) (FW.out.size) ?_
            intro v2 w11 hown2 hgr2 hor2
            have F11 := Lib.hid (FW.out.trans (fr_grown hgr2) (fun y hy => .inr (by simp only [Option.mem_toList] at hy; exact (NE.out y hy).1)))
            refine hK.out _ _ (KEEP2.out _ F11.out) (fun hHeld => ?_)
            clear hK K
            try simp only [List.getElem_toArray, List.getElem_cons_succ, List.getElem_cons_zero, Act.put, List.setIfInBounds_toArray, List.set_cons_zero, List.set_cons_succ]
            have OWN2 := Lib.hid hown2
            clear hown2 hgr2 hor2
            refine wpAnyL_ready (rs := [18]) (by kernel_rfl) (by simp) ?_
            refine AllReadyL.cons rfl (fun K hK => ?_) AllReadyL.nil
            refine step_append_its rfl _ _ rfl wd.heap.size v2 (([] ++ L.take j) ++ [x]) rfl OWN2.out _ (L.length - j) _ (L.drop j) rfl (HJ2.out _ F11.out) (by simp; omega) (F11.out.size) ?_
            intro v3 w18 hown3 hgr3 hor3
            have F18 := Lib.hid (F11.out.trans (fr_grown hgr3) (fun y hy => .inr (by simp only [Option.mem_toList] at hy; exact (OWN2.out.lt y hy).1)))
            refine hK.out _ _ (KEEP2.out _ F18.out) (fun hHeld => ?_)
            clear hK K
            try simp only [List.getElem_toArray, List.getElem_cons_succ, List.getElem_cons_zero, Act.put, List.setIfInBounds_toArray, List.set_cons_zero, List.set_cons_succ]
            obtain ⟨k3, cap3, hv3, _, _⟩ := hown3.form (by simp; omega)
            obtain ⟨n3, hn3⟩ : ∃ n, n = ([] ++ L.take j ++ [x] ++ L.drop j).length := ⟨_, rfl⟩
            rw [← hn3] at hv3
            subst hv3
            have HN3 := Lib.hid hn3
            clear hn3
            have OWN3 := Lib.hid hown3
            clear hown3 hgr3 hor3
            refine wpAnyL_ready (rs := [19]) (by kernel_rfl) (by simp) ?_
            refine AllReadyL.cons rfl (fun K hK => ?_) AllReadyL.nil
            simp only [List.getElem_toArray, List.getElem_cons_succ, List.getElem_cons_zero]
            go_simp
            refine hK.out _ _ (hHeld) (fun hHeld => ?_)
            clear hK K
            try simp only [List.getElem_toArray, List.getElem_cons_succ, List.getElem_cons_zero, Act.put, List.setIfInBounds_toArray, List.set_cons_zero, List.set_cons_succ]
            refine wpAnyL_take (i := 20) (v := ?_) rfl (by kernel_rfl) (by kernel_rfl) (by kernel_rfl) (by kernel_rfl) (fun _ _ _ h => h) (Or.inl ⟨rfl, ?_⟩) hHeld ?_
            rotate_left
            · (intro w hSw; (try dsimp only at hSw); go_simp; try (with_reducible rfl))
            simp only [List.getElem_toArray, List.getElem_cons_succ, List.getElem_cons_zero, Act.put, List.setIfInBounds_toArray, List.set_cons_zero, List.set_cons_succ]
            have hf18 : Fr [] W1 w18 := HZ.out.trans F18.out (fun y hy => .inl hy)
            have hd18 := (H.out.fr hf18).head
            have y5 : w18.frozen? ⟨b, 1, none⟩ = false := hd18.frozen 1
            have z5 := hHeld.1
            have hwd : w.heap.size ≤ wd.heap.size := (F.out.trans HZ.out (fun y hy => .inl hy)).size
            have HFIN := Lib.hid (show RhNext b base s (insL s L x) (.slice (some ⟨g, 0, none⟩) L.length c) w (w18.setCell ⟨b, 1, none⟩ (.slice (some ⟨k3, 0, none⟩) n3 cap3)) by
              have hl3 : insL s L x = ([] ++ L.take j ++ [x]) ++ L.drop j := by unfold insL; rw [HIN.out, List.nil_append]
              rw [hl3]
              refine ⟨_, ⟨hd18.setCell 1 _, own_keep (own_low OWN3.out (by omega)) ((Fr.refl [b] w18).setCell (p := ⟨b, 1, none⟩) (.inl (by simp)) _) (fun y hy hyb => ?_), hbl⟩, ((F.out.trans hf18 (fun y hy => .inl hy)).mono (by simp)).setCell (.inl (by simp)) _, fun y hy => .inr (by have := (OWN3.out.lt y hy).1; omega)⟩
              have h1 := (OWN3.out.lt y hy).1
              simp at hyb
              omega)
            clear hf18 hd18
            refine wpAnyL_ready (rs := [21]) (by kernel_rfl) (by simp) ?_
            refine AllReadyL.end_ rfl (fun K hK => ?_)
            simp only [List.getElem_toArray, List.getElem_cons_succ, List.getElem_cons_zero]
            go_simp
            refine hK.out _ _ ?_
            clear hK K
            try simp only [List.getElem_toArray, List.getElem_cons_succ, List.getElem_cons_zero, Act.put, List.setIfInBounds_toArray, List.set_cons_zero, List.set_cons_succ]
            refine wpAnyL_done (by kernel_rfl) ?_ _
            clear hHeld y5 z5
            go_wp2_with fail
            go_ret
            exact ⟨rfl, HFIN.out⟩
        · simp only [List.getElem_toArray, List.getElem_cons_succ, List.getElem_cons_zero]
          go_simp
          refine hK.out _ _ (KEEP2.out _ ((Fr.refl [] wd).alloc _)) (fun hHeld => ?_)
          clear hK K
          try simp only [List.getElem_toArray, List.getElem_cons_succ, List.getElem_cons_zero, Act.put, List.setIfInBounds_toArray, List.set_cons_zero, List.set_cons_succ]
          have XA := Lib.hid (⟨rfl, fun _ => ⟨wd.heap.size, 0, rfl, fun i u hu => by rw [Nat.zero_add]; exact ((Row.new wd [.int .i64 x.id, .int .i64 x.base, .int .i64 x.since] 37).cell i).trans hu⟩⟩ : ItemsAt (wd.alloc (.cells #[.int .i64 x.id, .int .i64 x.base, .int .i64 x.since] 37)) (some ⟨wd.heap.size, 0, none⟩) 1 [x])
          have FC := Lib.hid ((Fr.refl [] wd).alloc (.cells #[.int .i64 x.id, .int .i64 x.base, .int .i64 x.since] 37))
          refine wpAnyL_ready (rs := [1]) (by kernel_rfl) (by simp) ?_
          refine AllReadyL.cons rfl (fun K hK => ?_) AllReadyL.nil
          simp only [List.getElem_toArray, List.getElem_cons_succ, List.getElem_cons_zero]
          go_simp
          refine hK.out _ _ (KEEP2.out _ (FC.out.alloc _)) (fun hHeld => ?_)
          clear hK K
          try simp only [List.getElem_toArray, List.getElem_cons_succ, List.getElem_cons_zero, Act.put, List.setIfInBounds_toArray, List.set_cons_zero, List.set_cons_succ]
          have hom := World.ownsRow_made (base := wd.heap.size) (e := 37) (size := 3) (wd.alloc (.cells #[.int .i64 x.id, .int .i64 x.base, .int .i64 x.since] 37)) #[] 0 (by simp) (Nat.zero_le _) rfl
          rw [show (wd.alloc (.cells #[.int .i64 x.id, .int .i64 x.base, .int .i64 x.since] 37)).heap.size = wd.heap.size + 1 by simp] at hom
          have OWN8 := Lib.hid hom
          have XI := Lib.hid (XA.out.fr ((Fr.refl [] (wd.alloc (.cells #[.int .i64 x.id, .int .i64 x.base, .int .i64 x.since] 37))).alloc (.cells #[] 37)) (by simp))
          have FC2 := Lib.hid (FC.out.alloc (.cells #[] 37))
          clear hom XA
          refine wpAnyL_ready (rs := [8]) (by kernel_rfl) (by simp) ?_
          refine AllReadyL.cons rfl (fun K hK => ?_) AllReadyL.nil
          refine step_append_its rfl _ _ rfl wd.heap.size (.slice (some ⟨wd.heap.size + 1, 0, none⟩) 0 0) [] rfl OWN8.out _ j _ (L.take j) rfl (HJ1.out _ FC2.out) (by simp; omega) (FC2.out.size) ?_
          intro v1 w8 hown1 hgr1 hor1
          have F8 := Lib.hid (FC2.out.trans (T := [wd.heap.size + 1]) (fr_grown1 hgr1) (fun y hy => .inr (by simp at hy; omega)))
          refine hK.out _ _ (KEEP2.out _ (F8.out)) (fun hHeld => ?_)
          clear hK K
          try simp only [List.getElem_toArray, List.getElem_cons_succ, List.getElem_cons_zero, Act.put, List.setIfInBounds_toArray, List.set_cons_zero, List.set_cons_succ]
          have OWN1 := Lib.hid hown1
          have XJ := Lib.hid (XI.out.fr (S := [wd.heap.size + 1]) (fr_grown1 hgr1) (fun g' o' he => by cases he; simp))
          have FW := Lib.hid F8.out
          have NE := Lib.hid (fun y hy => by
          have h1 := (hown1.lt y hy).1
          refine ⟨h1, fun hyq => ?_⟩
          rcases hor1 with h2 | h2
          · rw [h2] at hy; simp [Value.ownBlock] at hy; omega
          · rw [h2] at hy; simp at hy; omega : ∀ y, v1.ownBlock = some y → wd.heap.size ≤ y ∧ y ≠ wd.heap.size)
          have hqq : wd.heap.size ≤ wd.heap.size := by omega
          clear hown1 hgr1 hor1 XI F8 OWN8 FC2 FC
          obtain ⟨WC, rfl⟩ : ∃ z, z = w8 := ⟨_, rfl⟩
          have XI := Lib.hid XJ.out
          clear XJ
          obtain ⟨q, hq⟩ : ∃ q, wd.heap.size = q := ⟨_, rfl⟩
          have NE := Lib.hid (hq ▸ NE.out : ∀ y, v1.ownBlock = some y → wd.heap.size ≤ y ∧ y ≠ q)
          rw [hq] at XI ⊢
          have hqq : wd.heap.size ≤ q := by omega
          refine wpAnyL_ready (rs := [11]) (by kernel_rfl) (by simp) ?_
          refine AllReadyL.cons rfl (fun K hK => ?_) AllReadyL.nil
          refine step_append_its rfl _ _ rfl wd.heap.size v1 ([] ++ L.take j) rfl OWN1.out _ 1 _ [x] rfl XI.out (by simp; omega) (FW.out.size) ?_
          intro v2 w11 hown2 hgr2 hor2
          have F11 := Lib.hid (FW.out.trans (fr_grown hgr2) (fun y hy => .inr (by simp only [Option.mem_toList] at hy; exact (NE.out y hy).1)))
          refine hK.out _ _ (KEEP2.out _ F11.out) (fun hHeld => ?_)
          clear hK K
          try simp only [List.getElem_toArray, List.getElem_cons_succ, List.getElem_cons_zero, Act.put, List.setIfInBounds_toArray, List.set_cons_zero, List.set_cons_succ]
          have OWN2 := Lib.hid hown2
          clear hown2 hgr2 hor2
          refine wpAnyL_ready (rs := [18]) (by kernel_rfl) (by simp) ?_
          refine AllReadyL.cons rfl (fun K hK => ?_) AllReadyL.nil
          refine step_append_its rfl _ _ rfl wd.heap.size v2 (([] ++ L.take j) ++ [x]) rfl OWN2.out _ (L.length - j) _ (L.drop j) rfl (HJ2.out _ F11.out) (by simp; omega) (F11.out.size) ?_
          intro v3 w18 hown3 hgr3 hor3
          have F18 := Lib.hid (F11.out.trans (fr_grown hgr3) (fun y hy => .inr (by simp only [Option.mem_toList] at hy; exact (OWN2.out.lt y hy).1)))
          refine hK.out _ _ (KEEP2.out _ F18.out) (fun hHeld => ?_)
          clear hK K
          try simp only [List.getElem_toArray, List.getElem_cons_succ, List.getElem_cons_zero, Act.put, List.setIfInBounds_toArray, List.set_cons_zero, List.set_cons_succ]
          obtain ⟨k3, cap3, hv3, _, _⟩ := hown3.form (by simp; omega)
          obtain ⟨n3, hn3⟩ : ∃ n, n = ([] ++ L.take j ++ [x] ++ L.drop j).length := ⟨_, rfl⟩
          rw [← hn3] at hv3
          subst hv3
          have HN3 := Lib.hid hn3
          clear hn3
          have OWN3 := Lib.hid hown3
          clear hown3 hgr3 hor3
          refine wpAnyL_ready (rs := [19]) (by kernel_rfl) (by simp) ?_
          refine AllReadyL.cons rfl (fun K hK => ?_) AllReadyL.nil
          simp only [List.getElem_toArray, List.getElem_cons_succ, List.getElem_cons_zero]
          go_simp
          refine hK.out _ _ (hHeld) (fun hHeld => ?_)
          clear hK K
          try simp only [List.getElem_toArray, List.getElem_cons_succ, List.getElem_cons_zero, Act.put, List.setIfInBounds_toArray, List.set_cons_zero, List.set_cons_succ]
          refine wpAnyL_take (i := 20) (v := ?_) rfl (by kernel_rfl) (by kernel_rfl) (by kernel_rfl) (by kernel_rfl) (fun _ _ _ h => h) (Or.inl ⟨rfl, ?_⟩) hHeld ?_
          rotate_left
          · (intro w hSw; (try dsimp only at hSw); go_simp; try (with_reducible rfl))
          simp only [List.getElem_toArray, List.getElem_cons_succ, List.getElem_cons_zero, Act.put, List.setIfInBounds_toArray, List.set_cons_zero, List.set_cons_succ]
          have hf18 : Fr [] W1 w18 := HZ.out.trans F18.out (fun y hy => .inl hy)
          have hd18 := (H.out.fr hf18).head
          have y5 : w18.frozen? ⟨b, 1, none⟩ = false := hd18.frozen 1
          have z5 := hHeld.1
          have hwd : w.heap.size ≤ wd.heap.size := (F.out.trans HZ.out (fun y hy => .inl hy)).size
          have HFIN := Lib.hid (show RhNext b base s (insL s L x) (.slice (some ⟨g, 0, none⟩) L.length c) w (w18.setCell ⟨b, 1, none⟩ (.slice (some ⟨k3, 0, none⟩) n3 cap3)) by
            have hl3 : insL s L x = ([] ++ L.take j ++ [x]) ++ L.drop j := by unfold insL; rw [HIN.out, List.nil_append]
            rw [hl3]
            refine ⟨_, ⟨hd18.setCell 1 _, own_keep (own_low OWN3.out (by omega)) ((Fr.refl [b] w18).setCell (p := ⟨b, 1, none⟩) (.inl (by simp)) _) (fun y hy hyb => ?_), hbl⟩, ((F.out.trans hf18 (fun y hy => .inl hy)).mono (by simp)).setCell (.inl (by simp)) _, fun y hy => .inr (by have := (OWN3.out.lt y hy).1; omega)⟩
            have h1 := (OWN3.out.lt y hy).1
            simp at hyb
            omega)
          clear hf18 hd18
          refine wpAnyL_ready (rs := [21]) (by kernel_rfl) (by simp) ?_
          refine AllReadyL.end_ rfl (fun K hK => ?_)
          simp only [List.getElem_toArray, List.getElem_cons_succ, List.getElem_cons_zero]
          go_simp
          refine hK.out _ _ ?_
          clear hK K
          try simp only [List.getElem_toArray, List.getElem_cons_succ, List.getElem_cons_zero, Act.put, List.setIfInBounds_toArray, List.set_cons_zero, List.set_cons_succ]
          refine wpAnyL_done (by kernel_rfl) ?_ _
          clear hHeld y5 z5
          go_wp2_with fail
          go_ret
          exact ⟨rfl, HFIN.out⟩
    · have e1 : decide (j < L.length) = false := decide_eq_false hlt
      have HIN := Lib.hid (insAt_eq (s := s) (x := x) hj HAL.out (fun h => absurd h hlt))
      go_wp2_with fail
      go_quiet (fail)
      go_wp2_with fail
      clear c1 x0 x1 x2 hlt e1
      generalize hwz : wr.drewN _ = wz
      have HZ := Lib.hid (hwz ▸ (HF.out.drewN _).drew : Fr [] W1 wz.drew)
      clear hwz
      obtain ⟨A2, hlo, hhi, HI1, HI2⟩ := rh_cut H.out hj
      have KEEP := Lib.hid (fun W' (f : Fr [] W1 W') => ⟨(H.out.fr f).head.cell 1, (HX.out.fr f (by simp)).cell 0, (HX.out.fr f (by simp)).cell 1, (HX.out.fr f (by simp)).cell 2⟩ : ∀ W', Fr [] W1 W' → (W'.cell? ⟨b, 1, none⟩ = some (.slice a L.length c) ∧ W'.cell? ⟨w.heap.size, 0, none⟩ = some (.int .i64 x.id) ∧ W'.cell? ⟨w.heap.size, 1, none⟩ = some (.int .i64 x.base) ∧ W'.cell? ⟨w.heap.size, 2, none⟩ = some (.int .i64 x.since)))
      refine wp_region_last (S := (fun w' => w'.cell? ⟨b, 1, none⟩ = some (.slice a L.length c) ∧ w'.cell? ⟨w.heap.size, 0, none⟩ = some (.int .i64 x.id) ∧ w'.cell? ⟨w.heap.size, 1, none⟩ = some (.int .i64 x.base) ∧ w'.cell? ⟨w.heap.size, 2, none⟩ = some (.int .i64 x.since))) 21 (by kernel_rfl) (KEEP.out _ HZ.out) (fun hHeld => ?_)
      generalize wz.drew = wd at HZ hHeld ⊢
      have hzs : W1.heap.size ≤ wd.heap.size := HZ.out.size
      refine wpAnyL_take (i := 0) (v := ?_) rfl (by kernel_rfl) (by kernel_rfl) (by kernel_rfl) (by kernel_rfl) (fun _ _ _ h => h) (Or.inl ⟨rfl, ?_⟩) hHeld ?_
      rotate_left
      · (intro w hSw; (try dsimp only at hSw); go_simp; try (with_reducible rfl))
      simp only [List.getElem_toArray, List.getElem_cons_succ, List.getElem_cons_zero, Act.put, List.setIfInBounds_toArray, List.set_cons_zero, List.set_cons_succ]
      refine wpAnyL_take (i := 2) (v := ?_) rfl (by kernel_rfl) (by kernel_rfl) (by kernel_rfl) (by kernel_rfl) (fun _ _ _ h => h) (Or.inl ⟨rfl, ?_⟩) hHeld ?_
      rotate_left
      · (intro w hSw; (try dsimp only at hSw); go_simp; try (with_reducible rfl))
      simp only [List.getElem_toArray, List.getElem_cons_succ, List.getElem_cons_zero, Act.put, List.setIfInBounds_toArray, List.set_cons_zero, List.set_cons_succ]
      refine wpAnyL_take (i := 3) (v := ?_) rfl (by kernel_rfl) (by kernel_rfl) (by kernel_rfl) (by kernel_rfl) (fun _ _ _ h => h) (Or.inl ⟨rfl, ?_⟩) hHeld ?_
      rotate_left
      · (intro w hSw; (try dsimp only at hSw); go_simp; try (with_reducible rfl))
      simp only [List.getElem_toArray, List.getElem_cons_succ, List.getElem_cons_zero, Act.put, List.setIfInBounds_toArray, List.set_cons_zero, List.set_cons_succ]
      refine wpAnyL_take (i := 4) (v := ?_) rfl (by kernel_rfl) (by kernel_rfl) (by kernel_rfl) (by kernel_rfl) (fun _ _ _ h => h) (Or.inl ⟨rfl, ?_⟩) hHeld ?_
      rotate_left
      · (intro w hSw; (try dsimp only at hSw); go_simp; try (with_reducible rfl))
      simp only [List.getElem_toArray, List.getElem_cons_succ, List.getElem_cons_zero, Act.put, List.setIfInBounds_toArray, List.set_cons_zero, List.set_cons_succ]
      refine wpAnyL_take (i := 5) (v := ?_) rfl (by kernel_rfl) (by kernel_rfl) (by kernel_rfl) (by kernel_rfl) (fun _ _ _ h => h) (Or.inl ⟨rfl, ?_⟩) hHeld ?_
      rotate_left
      · (intro w hSw; (try dsimp only at hSw); go_simp; try (with_reducible rfl))
      simp only [List.getElem_toArray, List.getElem_cons_succ, List.getElem_cons_zero, Act.put, List.setIfInBounds_toArray, List.set_cons_zero, List.set_cons_succ]
      refine wpAnyL_take (i := 6) (v := ?_) rfl (by kernel_rfl) (by kernel_rfl) (by kernel_rfl) (by kernel_rfl) (fun _ _ _ h => h) (Or.inl ⟨rfl, ?_⟩) hHeld ?_
      rotate_left
      · (intro w hSw; (try dsimp only at hSw); go_simp; try (with_reducible rfl))
      simp only [List.getElem_toArray, List.getElem_cons_succ, List.getElem_cons_zero, Act.put, List.setIfInBounds_toArray, List.set_cons_zero, List.set_cons_succ]
      refine wpAnyL_take (i := 7) (v := ?_) rfl (by kernel_rfl) (by kernel_rfl) (by kernel_rfl) (by kernel_rfl) (fun _ _ _ h => h) (Or.inl ⟨rfl, ?_⟩) hHeld ?_
      rotate_left
      · (intro w hSw; (try dsimp only at hSw); go_simp; try (with_reducible rfl))
      simp only [List.getElem_toArray, List.getElem_cons_succ, List.getElem_cons_zero, Act.put, List.setIfInBounds_toArray, List.set_cons_zero, List.set_cons_succ]
      refine wpAnyL_take (i := 9) (v := ?_) rfl (by kernel_rfl) (by kernel_rfl) (by kernel_rfl) (by kernel_rfl) (fun _ _ _ h => h) (Or.inl ⟨rfl, ?_⟩) hHeld ?_
      rotate_left
      · (intro w hSw; (try dsimp only at hSw); go_simp; try (with_reducible rfl))
      simp only [List.getElem_toArray, List.getElem_cons_succ, List.getElem_cons_zero, Act.put, List.setIfInBounds_toArray, List.set_cons_zero, List.set_cons_succ]
      refine wpAnyL_take (i := 12) (v := ?_) rfl (by kernel_rfl) (by kernel_rfl) (by kernel_rfl) (by kernel_rfl) (fun _ _ _ h => h) (Or.inl ⟨rfl, ?_⟩) hHeld ?_
      rotate_left
      · (intro w hSw; (try dsimp only at hSw); go_simp; try (with_reducible rfl))
      simp only [List.getElem_toArray, List.getElem_cons_succ, List.getElem_cons_zero, Act.put, List.setIfInBounds_toArray, List.set_cons_zero, List.set_cons_succ]
      refine wpAnyL_take (i := 13) (v := ?_) rfl (by kernel_rfl) (by kernel_rfl) (by kernel_rfl) (by kernel_rfl) (fun _ _ _ h => h) (Or.inl ⟨rfl, ?_⟩) hHeld ?_
      rotate_left
      · (intro w hSw; (try dsimp only at hSw); go_simp; try (with_reducible rfl))
      simp only [List.getElem_toArray, List.getElem_cons_succ, List.getElem_cons_zero, Act.put, List.setIfInBounds_toArray, List.set_cons_zero, List.set_cons_succ]
      refine wpAnyL_take (i := 14) (v := ?_) rfl (by kernel_rfl) (by kernel_rfl) (by kernel_rfl) (by kernel_rfl) (fun _ _ _ h => h) (Or.inl ⟨rfl, ?_⟩) hHeld ?_
      rotate_left
      · (intro w hSw; (try dsimp only at hSw); go_simp; try (with_reducible rfl))
      simp only [List.getElem_toArray, List.getElem_cons_succ, List.getElem_cons_zero, Act.put, List.setIfInBounds_toArray, List.set_cons_zero, List.set_cons_succ]
      refine wpAnyL_take (i := 15) (v := ?_) rfl (by kernel_rfl) (by kernel_rfl) (by kernel_rfl) (by kernel_rfl) (fun _ _ _ h => h) (Or.inl ⟨rfl, ?_⟩) hHeld ?_
      rotate_left
      · (intro w hSw; (try dsimp only at hSw); go_simp; try (with_reducible rfl))
      simp only [List.getElem_toArray, List.getElem_cons_succ, List.getElem_cons_zero, Act.put, List.setIfInBounds_toArray, List.set_cons_zero, List.set_cons_succ]
      refine wpAnyL_take (i := 16) (v := ?_) rfl (by kernel_rfl) (by kernel_rfl) (by kernel_rfl) (by kernel_rfl) (fun _ _ _ h => h) (Or.inl ⟨rfl, ?_⟩) hHeld ?_
      rotate_left
      · (intro w hSw; (try dsimp only at hSw); go_simp; try (with_reducible rfl))
      simp only [List.getElem_toArray, List.getElem_cons_succ, List.getElem_cons_zero, Act.put, List.setIfInBounds_toArray, List.set_cons_zero, List.set_cons_succ]
      refine wpAnyL_take (i := 17) (v := ?_) rfl (by kernel_rfl) (by kernel_rfl) (by kernel_rfl) (by kernel_rfl) (fun _ _ _ h => h) (Or.inl ⟨rfl, ?_⟩) hHeld ?_
      rotate_left
      · (intro w hSw; (try dsimp only at hSw); go_simp; try (with_reducible rfl))
      simp only [List.getElem_toArray, List.getElem_cons_succ, List.getElem_cons_zero, Act.put, List.setIfInBounds_toArray, List.set_cons_zero, List.set_cons_succ]
      clear hlo hhi
      have KEEP2 := Lib.hid (fun W' (f : Fr [] wd W') => KEEP.out W' (HZ.out.trans f (fun y hy => .inl hy)))
      have HJ1 := Lib.hid (fun W' (f : Fr [] wd W') => HI1 W' (HZ.out.trans f (fun y hy => .inl hy)))
      have HJ2 := Lib.hid (fun W' (f : Fr [] wd W') => HI2 W' (HZ.out.trans f (fun y hy => .inl hy)))
      clear HI1 HI2
      refine wpAnyL_ready (rs := [1, 10]) (by kernel_rfl) (by simp) ?_
      refine AllReadyL.cons rfl (fun K hK => ?_) (AllReadyL.cons rfl (fun K hK => ?_) AllReadyL.nil)
      · simp only [List.getElem_toArray, List.getElem_cons_succ, List.getElem_cons_zero]
        go_simp
        refine hK.out _ _ (KEEP2.out _ ((Fr.refl [] wd).alloc _)) (fun hHeld => ?_)
        clear hK K
        try simp only [List.getElem_toArray, List.getElem_cons_succ, List.getElem_cons_zero, Act.put, List.setIfInBounds_toArray, List.set_cons_zero, List.set_cons_succ]
        have OWN := Lib.hid (World.ownsRow_made (base := wd.heap.size) (e := 37) (size := 3) wd #[] 0 (Nat.le_refl _) (Nat.zero_le _) rfl)
        have FC := Lib.hid ((Fr.refl [] wd).alloc (.cells #[] 37))
        refine wpAnyL_ready (rs := [8, 10]) (by kernel_rfl) (by simp) ?_
        refine AllReadyL.cons rfl (fun K hK => ?_) (AllReadyL.cons rfl (fun K hK => ?_) AllReadyL.nil)
        · refine step_append_its rfl _ _ rfl wd.heap.size (.slice (some ⟨wd.heap.size, 0, none⟩) 0 0) [] rfl OWN.out _ j _ (L.take j) rfl (HJ1.out _ FC.out) (by simp; omega) (FC.out.size) ?_
          intro v1 w8 hown1 hgr1 hor1
          have F8 := Lib.hid (FC.out.trans (T := [wd.heap.size]) (fr_grown1 hgr1) (fun y hy => .inr (by simp at hy; omega)))
          refine hK.out _ _ (KEEP2.out _ (F8.out)) (fun hHeld => ?_)
          clear hK K
          try simp only [List.getElem_toArray, List.getElem_cons_succ, List.getElem_cons_zero, Act.put, List.setIfInBounds_toArray, List.set_cons_zero, List.set_cons_succ]
          have HV1 := Lib.hid (fun y hy => hown1.lt y hy : ∀ y, v1.ownBlock = some y → wd.heap.size ≤ y ∧ y < w8.heap.size)
          have OWN8 := Lib.hid hown1
          clear hown1 hgr1 hor1
          refine wpAnyL_ready (rs := [10]) (by kernel_rfl) (by simp) ?_
          refine AllReadyL.cons rfl (fun K hK => ?_) AllReadyL.nil
          simp only [List.getElem_toArray, List.getElem_cons_succ, List.getElem_cons_zero]
          go_simp
          refine hK.out _ _ (KEEP2.out _ (F8.out.alloc _)) (fun hHeld => ?_)
          clear hK K
          try simp only [List.getElem_toArray, List.getElem_cons_succ, List.getElem_cons_zero, Act.put, List.setIfInBounds_toArray, List.set_cons_zero, List.set_cons_succ]
          have OWN1 := Lib.hid (own_keep OWN8.out ((Fr.refl [] w8).alloc (.cells #[.int .i64 x.id, .int .i64 x.base, .int .i64 x.since] 37)) (by simp))
          have XI := Lib.hid (⟨rfl, fun _ => ⟨w8.heap.size, 0, rfl, fun i u hu => by rw [Nat.zero_add]; exact ((Row.new w8 [.int .i64 x.id, .int .i64 x.base, .int .i64 x.since] 37).cell i).trans hu⟩⟩ : ItemsAt (w8.alloc (.cells #[.int .i64 x.id, .int .i64 x.base, .int .i64 x.since] 37)) (some ⟨w8.heap.size, 0, none⟩) 1 [x])
          have FW := Lib.hid (F8.out.alloc (.cells #[.int .i64 x.id, .int .i64 x.base, .int .i64 x.since] 37))
          have NE := Lib.hid (fun y hy => ⟨(HV1.out y hy).1, by have := (HV1.out y hy).2; omega⟩ : ∀ y, v1.ownBlock = some y → wd.heap.size ≤ y ∧ y ≠ w8.heap.size)
          have hqq : wd.heap.size ≤ w8.heap.size := F8.out.size
          clear HV1 OWN8 F8 FC OWN
          generalize w8.alloc (.cells #[.int .i64 x.id, .int .i64 x.base, .int .i64 x.since] 37) = WC at *
          generalize w8.heap.size = q at *
          refine wpAnyL_ready (rs := [11]) (by kernel_rfl) (by simp) ?_
          refine AllReadyL.cons rfl (fun K hK => ?_) AllReadyL.nil
          refine step_append_its rfl _ _ rfl wd.heap.size v1 ([] ++ L.take j) rfl OWN1.out _ 1 _ [x] rfl XI.out (by simp; omega) (FW.out.size) ?_
          intro v2 w11 hown2 hgr2 hor2
          have F11 := Lib.hid (FW.out.trans (fr_grown hgr2) (fun y hy => .inr (by simp only [Option.mem_toList] at hy; exact (NE.out y hy).1)))
          refine hK.out _ _ (KEEP2.out _ F11.out) (fun hHeld => ?_)
          clear hK K
          try simp only [List.getElem_toArray, List.getElem_cons_succ, List.getElem_cons_zero, Act.put, List.setIfInBounds_toArray, List.set_cons_zero, List.set_cons_succ]
          have OWN2 := Lib.hid hown2
          clear hown2 hgr2 hor2
          refine wpAnyL_ready (rs := [18]) (by kernel_rfl) (by simp) ?_
          refine AllReadyL.cons rfl (fun K hK => ?_) AllReadyL.nil
          refine step_append_its rfl _ _ rfl wd.heap.size v2 (([] ++ L.take j) ++ [x]) rfl OWN2.out _ (L.length - j) _ (L.drop j) rfl (HJ2.out _ F11.out) (by simp; omega) (F11.out.size) ?_
          intro v3 w18 hown3 hgr3 hor3
          have F18 := Lib.hid (F11.out.trans (fr_grown hgr3) (fun y hy => .inr (by simp only [Option.mem_toList] at hy; exact (OWN2.out.lt y hy).1)))
          refine hK.out _ _ (KEEP2.out _ F18.out) (fun hHeld => ?_)
          clear hK K
          try simp only [List.getElem_toArray, List.getElem_cons_succ, List.getElem_cons_zero, Act.put, List.setIfInBounds_toArray, List.set_cons_zero, List.set_cons_succ]
          obtain ⟨k3, cap3, hv3, _, _⟩ := hown3.form (by simp; omega)
          obtain ⟨n3, hn3⟩ : ∃ n, n = ([] ++ L.take j ++ [x] ++ L.drop j).length := ⟨_, rfl⟩
          rw [← hn3] at hv3
          subst hv3
          have HN3 := Lib.hid hn3
          clear hn3
          have OWN3 := Lib.hid hown3
          clear hown3 hgr3 hor3
          refine wpAnyL_ready (rs := [19]) (by kernel_rfl) (by simp) ?_
          refine AllReadyL.cons rfl (fun K hK => ?_) AllReadyL.nil
          simp only [List.getElem_toArray, List.getElem_cons_succ, List.getElem_cons_zero]
          go_simp
          refine hK.out _ _ (hHeld) (fun hHeld => ?_)
          clear hK K
          try simp only [List.getElem_toArray, List.getElem_cons_succ, List.getElem_cons_zero, Act.put, List.setIfInBounds_toArray, List.set_cons_zero, List.set_cons_succ]
          refine wpAnyL_take (i := 20) (v := ?_) rfl (by kernel_rfl) (by kernel_rfl) (by kernel_rfl) (by kernel_rfl) (fun _ _ _ h => h) (Or.inl ⟨rfl, ?_⟩) hHeld ?_
          rotate_left
          · (intro w hSw; (try dsimp only at hSw); go_simp; try (with_reducible rfl))
          simp only [List.getElem_toArray, List.getElem_cons_succ, List.getElem_cons_zero, Act.put, List.setIfInBounds_toArray, List.set_cons_zero, List.set_cons_succ]
          have hf18 : Fr [] W1 w18 := HZ.out.trans F18.out (fun y hy => .inl hy)
          have hd18 := (H.out.fr hf18).head
          have y5 : w18.frozen? ⟨b, 1, none⟩ = false := hd18.frozen 1
          have z5 := hHeld.1
          have hwd : w.heap.size ≤ wd.heap.size := (F.out.trans HZ.out (fun y hy => .inl hy)).size
          have HFIN := Lib.hid (show RhNext b base s (insL s L x) (.slice a L.length c) w (w18.setCell ⟨b, 1, none⟩ (.slice (some ⟨k3, 0, none⟩) n3 cap3)) by
            have hl3 : insL s L x = ([] ++ L.take j ++ [x]) ++ L.drop j := by unfold insL; rw [HIN.out, List.nil_append]
            rw [hl3]
            refine ⟨_, ⟨hd18.setCell 1 _, own_keep (own_low OWN3.out (by omega)) ((Fr.refl [b] w18).setCell (p := ⟨b, 1, none⟩) (.inl (by simp)) _) (fun y hy hyb => ?_), hbl⟩, ((F.out.trans hf18 (fun y hy => .inl hy)).mono (by simp)).setCell (.inl (by simp)) _, fun y hy => .inr (by have := (OWN3.out.lt y hy).1; omega)⟩
            have h1 := (OWN3.out.lt y hy).1
            simp at hyb
            omega)
          clear hf18 hd18
          refine wpAnyL_ready (rs := [21]) (by kernel_rfl) (by simp) ?_
          refine AllReadyL.end_ rfl (fun K hK => ?_)
          simp only [List.getElem_toArray, List.getElem_cons_succ, List.getElem_cons_zero]
          go_simp
          refine hK.out _ _ ?_
          clear hK K
          try simp only [List.getElem_toArray, List.getElem_cons_succ, List.getElem_cons_zero, Act.put, List.setIfInBounds_toArray, List.set_cons_zero, List.set_cons_succ]
          refine wpAnyL_done (by kernel_rfl) ?_ _
          clear hHeld y5 z5
          go_wp2_with fail
          go_ret
          exact ⟨rfl, HFIN.out⟩
        · simp only [List.getElem_toArray, List.getElem_cons_succ, List.getElem_cons_zero]
          go_simp
          refine hK.out _ _ (KEEP2.out _ (FC.out.alloc _)) (fun hHeld => ?_)
          clear hK K
          try simp only [List.getElem_toArray, List.getElem_cons_succ, List.getElem_cons_zero, Act.put, List.setIfInBounds_toArray, List.set_cons_zero, List.set_cons_succ]
          have OWN8 := Lib.hid (own_keep OWN.out ((Fr.refl [] (wd.alloc (.cells #[] 37))).alloc (.cells #[.int .i64 x.id, .int .i64 x.base, .int .i64 x.since] 37)) (by simp))
          have FC2 := Lib.hid (FC.out.alloc (.cells #[.int .i64 x.id, .int .i64 x.base, .int .i64 x.since] 37))
          have hrq := Row.new (wd.alloc (.cells #[] 37)) [.int .i64 x.id, .int .i64 x.base, .int .i64 x.since] 37
          rw [show (wd.alloc (.cells #[] 37)).heap.size = wd.heap.size + 1 by simp] at hrq
          have XI := Lib.hid (⟨rfl, fun _ => ⟨wd.heap.size + 1, 0, rfl, fun i u hu => by rw [Nat.zero_add]; exact (hrq.cell i).trans hu⟩⟩ : ItemsAt ((wd.alloc (.cells #[] 37)).alloc (.cells #[.int .i64 x.id, .int .i64 x.base, .int .i64 x.since] 37)) (some ⟨wd.heap.size + 1, 0, none⟩) 1 [x])
          clear hrq
          refine wpAnyL_ready (rs := [8]) (by kernel_rfl) (by simp) ?_
          refine AllReadyL.cons rfl (fun K hK => ?_) AllReadyL.nil
          refine step_append_its rfl _ _ rfl wd.heap.size (.slice (some ⟨wd.heap.size, 0, none⟩) 0 0) [] rfl OWN8.out _ j _ (L.take j) rfl (HJ1.out _ FC2.out) (by simp; omega) (FC2.out.size) ?_
          intro v1 w8 hown1 hgr1 hor1
          have F8 := Lib.hid (FC2.out.trans (T := [wd.heap.size]) (fr_grown1 hgr1) (fun y hy => .inr (by simp at hy; omega)))
          refine hK.out _ _ (KEEP2.out _ (F8.out)) (fun hHeld => ?_)
          clear hK K
          try simp only [List.getElem_toArray, List.getElem_cons_succ, List.getElem_cons_zero, Act.put, List.setIfInBounds_toArray, List.set_cons_zero, List.set_cons_succ]
          have OWN1 := Lib.hid hown1
          have XJ := Lib.hid (XI.out.fr (S := [wd.heap.size]) (fr_grown1 hgr1) (fun g' o' he => by cases he; simp))
          have FW := Lib.hid F8.out
          have NE := Lib.hid (fun y hy => by
        have h1 := (hown1.lt y hy).1
        refine ⟨h1, fun hyq => ?_⟩
        rcases hor1 with h2 | h2
        · rw [h2] at hy; simp [Value.ownBlock] at hy; omega
        · rw [h2] at hy; simp at hy; omega : ∀ y, v1.ownBlock = some y → wd.heap.size ≤ y ∧ y ≠ wd.heap.size + 1)
          have hqq : wd.heap.size ≤ wd.heap.size + 1 := by omega
          clear hown1 hgr1 hor1 XI F8 OWN8 FC2 FC
          obtain ⟨WC, rfl⟩ : ∃ z, z = w8 := ⟨_, rfl⟩
          have XI := Lib.hid XJ.out
          clear XJ
          generalize wd.heap.size + 1 = q at *
          clear OWN
          refine wpAnyL_ready (rs := [11]) (by kernel_rfl) (by simp) ?_
          refine AllReadyL.cons rfl (fun K hK => ?_) AllReadyL.nil
          refine step_append_its rfl _ _ rfl wd.heap.size v1 ([] ++ L.take j) rfl OWN1.out _ 1 _ [x] rfl XI.out (by simp; omega) (FW.out.size) ?_
          intro v2 w11 hown2 hgr2 hor2
          have F11 := Lib.hid (FW.out.trans (fr_grown hgr2) (fun y hy => .inr (by simp only [Option.mem_toList] at hy; exact (NE.out y hy).1)))
          refine hK.out _ _ (KEEP2.out _ F11.out) (fun hHeld => ?_)
          clear hK K
          try simp only [List.getElem_toArray, List.getElem_cons_succ, List.getElem_cons_zero, Act.put, List.setIfInBounds_toArray, List.set_cons_zero, List.set_cons_succ]
          have OWN2 := Lib.hid hown2
          clear hown2 hgr2 hor2
          refine wpAnyL_ready (rs := [18]) (by kernel_rfl) (by simp) ?_
          refine AllReadyL.cons rfl (fun K hK => ?_) AllReadyL.nil
          refine step_append_its rfl _ _ rfl wd.heap.size v2 (([] ++ L.take j) ++ [x]) rfl OWN2.out _ (L.length - j) _ (L.drop j) rfl (HJ2.out _ F11.out) (by simp; omega) (F11.out.size) ?_
          intro v3 w18 hown3 hgr3 hor3
          have F18 := Lib.hid (F11.out.trans (fr_grown hgr3) (fun y hy => .inr (by simp only [Option.mem_toList] at hy; exact (OWN2.out.lt y hy).1)))
          refine hK.out _ _ (KEEP2.out _ F18.out) (fun hHeld => ?_)
          clear hK K
          try simp only [List.getElem_toArray, List.getElem_cons_succ, List.getElem_cons_zero, Act.put, List.setIfInBounds_toArray, List.set_cons_zero, List.set_cons_succ]
          obtain ⟨k3, cap3, hv3, _, _⟩ := hown3.form (by simp; omega)
          obtain ⟨n3, hn3⟩ : ∃ n, n = ([] ++ L.take j ++ [x] ++ L.drop j).length := ⟨_, rfl⟩
          rw [← hn3] at hv3
          subst hv3
          have HN3 := Lib.hid hn3
          clear hn3
          have OWN3 := Lib.hid hown3
          clear hown3 hgr3 hor3
          refine wpAnyL_ready (rs := [19]) (by kernel_rfl) (by simp) ?_
          refine AllReadyL.cons rfl (fun K hK => ?_) AllReadyL.nil
          simp only [List.getElem_toArray, List.getElem_cons_succ, List.getElem_cons_zero]
          go_simp
          refine hK.out _ _ (hHeld) (fun hHeld => ?_)
          clear hK K
          try simp only [List.getElem_toArray, List.getElem_cons_succ, List.getElem_cons_zero, Act.put, List.setIfInBounds_toArray, List.set_cons_zero, List.set_cons_succ]
          refine wpAnyL_take (i := 20) (v := ?_) rfl (by kernel_rfl) (by kernel_rfl) (by kernel_rfl) (by kernel_rfl) (fun _ _ _ h => h) (Or.inl ⟨rfl, ?_⟩) hHeld ?_
          rotate_left
          · (intro w hSw; (try dsimp only at hSw); go_simp; try (with_reducible rfl))
          simp only [List.getElem_toArray, List.getElem_cons_succ, List.getElem_cons_zero, Act.put, List.setIfInBounds_toArray, List.set_cons_zero, List.set_cons_succ]
          have hf18 : Fr [] W1 w18 := HZ.out.trans F18.out (fun y hy => .inl hy)
          have hd18 := (H.out.fr hf18).head
          have y5 : w18.frozen? ⟨b, 1, none⟩ = false := hd18.frozen 1
          have z5 := hHeld.1
          have hwd : w.heap.size ≤ wd.heap.size := (F.out.trans HZ.out (fun y hy => .inl hy)).size
          have HFIN := Lib.hid (show RhNext b base s (insL s L x) (.slice a L.length c) w (w18.setCell ⟨b, 1, none⟩ (.slice (some ⟨k3, 0, none⟩) n3 cap3)) by
            have hl3 : insL s L x = ([] ++ L.take j ++ [x]) ++ L.drop j := by unfold insL; rw [HIN.out, List.nil_append]
            rw [hl3]
            refine ⟨_, ⟨hd18.setCell 1 _, own_keep (own_low OWN3.out (by omega)) ((Fr.refl [b] w18).setCell (p := ⟨b, 1, none⟩) (.inl (by simp)) _) (fun y hy hyb => ?_), hbl⟩, ((F.out.trans hf18 (fun y hy => .inl hy)).mono (by simp)).setCell (.inl (by simp)) _, fun y hy => .inr (by have := (OWN3.out.lt y hy).1; omega)⟩
            have h1 := (OWN3.out.lt y hy).1
            simp at hyb
            omega)
          clear hf18 hd18
          refine wpAnyL_ready (rs := [21]) (by kernel_rfl) (by simp) ?_
          refine AllReadyL.end_ rfl (fun K hK => ?_)
          simp only [List.getElem_toArray, List.getElem_cons_succ, List.getElem_cons_zero]
          go_simp
          refine hK.out _ _ ?_
          clear hK K
          try simp only [List.getElem_toArray, List.getElem_cons_succ, List.getElem_cons_zero, Act.put, List.setIfInBounds_toArray, List.set_cons_zero, List.set_cons_succ]
          refine wpAnyL_done (by kernel_rfl) ?_ _
          clear hHeld y5 z5
          go_wp2_with fail
          go_ret
          exact ⟨rfl, HFIN.out⟩
      · simp only [List.getElem_toArray, List.getElem_cons_succ, List.getElem_cons_zero]
        go_simp
        refine hK.out _ _ (KEEP2.out _ ((Fr.refl [] wd).alloc _)) (fun hHeld => ?_)
        clear hK K
        try simp only [List.getElem_toArray, List.getElem_cons_succ, List.getElem_cons_zero, Act.put, List.setIfInBounds_toArray, List.set_cons_zero, List.set_cons_succ]
        have XA := Lib.hid (⟨rfl, fun _ => ⟨wd.heap.size, 0, rfl, fun i u hu => by rw [Nat.zero_add]; exact ((Row.new wd [.int .i64 x.id, .int .i64 x.base, .int .i64 x.since] 37).cell i).trans hu⟩⟩ : ItemsAt (wd.alloc (.cells #[.int .i64 x.id, .int .i64 x.base, .int .i64 x.since] 37)) (some ⟨wd.heap.size, 0, none⟩) 1 [x])
        have FC := Lib.hid ((Fr.refl [] wd).alloc (.cells #[.int .i64 x.id, .int .i64 x.base, .int .i64 x.since] 37))
        refine wpAnyL_ready (rs := [1]) (by kernel_rfl) (by simp) ?_
        refine AllReadyL.cons rfl (fun K hK => ?_) AllReadyL.nil
        simp only [List.getElem_toArray, List.getElem_cons_succ, List.getElem_cons_zero]
        go_simp
        refine hK.out _ _ (KEEP2.out _ (FC.out.alloc _)) (fun hHeld => ?_)
        clear hK K
        try simp only [List.getElem_toArray, List.getElem_cons_succ, List.getElem_cons_zero, Act.put, List.setIfInBounds_toArray, List.set_cons_zero, List.set_cons_succ]
        have hom := World.ownsRow_made (base := wd.heap.size) (e := 37) (size := 3) (wd.alloc (.cells #[.int .i64 x.id, .int .i64 x.base, .int .i64 x.since] 37)) #[] 0 (by simp) (Nat.zero_le _) rfl
        rw [show (wd.alloc (.cells #[.int .i64 x.id, .int .i64 x.base, .int .i64 x.since] 37)).heap.size = wd.heap.size + 1 by simp] at hom
        have OWN8 := Lib.hid hom
        have XI := Lib.hid (XA.out.fr ((Fr.refl [] (wd.alloc (.cells #[.int .i64 x.id, .int .i64 x.base, .int .i64 x.since] 37))).alloc (.cells #[] 37)) (by simp))
        have FC2 := Lib.hid (FC.out.alloc (.cells #[] 37))
        clear hom XA
        refine wpAnyL_ready (rs := [8]) (by kernel_rfl) (by simp) ?_
        refine AllReadyL.cons rfl (fun K hK => ?_) AllReadyL.nil
        refine step_append_its rfl _ _ rfl wd.heap.size (.slice (some ⟨wd.heap.size + 1, 0, none⟩) 0 0) [] rfl OWN8.out _ j _ (L.take j) rfl (HJ1.out _ FC2.out) (by simp; omega) (FC2.out.size) ?_
        intro v1 w8 hown1 hgr1 hor1
        have F8 := Lib.hid (FC2.out.trans (T := [wd.heap.size + 1]) (fr_grown1 hgr1) (fun y hy => .inr (by simp at hy; omega)))
        refine hK.out _ _ (KEEP2.out _ (F8.out)) (fun hHeld => ?_)
        clear hK K
        try simp only [List.getElem_toArray, List.getElem_cons_succ, List.getElem_cons_zero, Act.put, List.setIfInBounds_toArray, List.set_cons_zero, List.set_cons_succ]
        have OWN1 := Lib.hid hown1
        have XJ := Lib.hid (XI.out.fr (S := [wd.heap.size + 1]) (fr_grown1 hgr1) (fun g' o' he => by cases he; simp))
        have FW := Lib.hid F8.out
        have NE := Lib.hid (fun y hy => by
        have h1 := (hown1.lt y hy).1
        refine ⟨h1, fun hyq => ?_⟩
        rcases hor1 with h2 | h2
        · rw [h2] at hy; simp [Value.ownBlock] at hy; omega
        · rw [h2] at hy; simp at hy; omega : ∀ y, v1.ownBlock = some y → wd.heap.size ≤ y ∧ y ≠ wd.heap.size)
        have hqq : wd.heap.size ≤ wd.heap.size := by omega
        clear hown1 hgr1 hor1 XI F8 OWN8 FC2 FC
        obtain ⟨WC, rfl⟩ : ∃ z, z = w8 := ⟨_, rfl⟩
        have XI := Lib.hid XJ.out
        clear XJ
        obtain ⟨q, hq⟩ : ∃ q, wd.heap.size = q := ⟨_, rfl⟩
        have NE := Lib.hid (hq ▸ NE.out : ∀ y, v1.ownBlock = some y → wd.heap.size ≤ y ∧ y ≠ q)
        rw [hq] at XI ⊢
        have hqq : wd.heap.size ≤ q := by omega
        refine wpAnyL_ready (rs := [11]) (by kernel_rfl) (by simp) ?_
        refine AllReadyL.cons rfl (fun K hK => ?_) AllReadyL.nil
        refine step_append_its rfl _ _ rfl wd.heap.size v1 ([] ++ L.take j) rfl OWN1.out _ 1 _ [x] rfl XI.out (by simp; omega) (FW.out.size) ?_
        intro v2 w11 hown2 hgr2 hor2
        have F11 := Lib.hid (FW.out.trans (fr_grown hgr2) (fun y hy => .inr (by simp only [Option.mem_toList] at hy; exact (NE.out y hy).1)))
        refine hK.out _ _ (KEEP2.out _ F11.out) (fun hHeld => ?_)
        clear hK K
        try simp only [List.getElem_toArray, List.getElem_cons_succ, List.getElem_cons_zero, Act.put, List.setIfInBounds_toArray, List.set_cons_zero, List.set_cons_succ]
        have OWN2 := Lib.hid hown2
        clear hown2 hgr2 hor2
        refine wpAnyL_ready (rs := [18]) (by kernel_rfl) (by simp) ?_
        refine AllReadyL.cons rfl (fun K hK => ?_) AllReadyL.nil
        refine step_append_its rfl _ _ rfl wd.heap.size v2 (([] ++ L.take j) ++ [x]) rfl OWN2.out _ (L.length - j) _ (L.drop j) rfl (HJ2.out _ F11.out) (by simp; omega) (F11.out.size) ?_
        intro v3 w18 hown3 hgr3 hor3
        have F18 := Lib.hid (F11.out.trans (fr_grown hgr3) (fun y hy => .inr (by simp only [Option.mem_toList] at hy; exact (OWN2.out.lt y hy).1)))
        refine hK.out _ _ (KEEP2.out _ F18.out) (fun hHeld => ?_)
        clear hK K
        try simp only [List.getElem_toArray, List.getElem_cons_succ, List.getElem_cons_zero, Act.put, List.setIfInBounds_toArray, List.set_cons_zero, List.set_cons_succ]
        obtain ⟨k3, cap3, hv3, _, _⟩ := hown3.form (by simp; omega)
        obtain ⟨n3, hn3⟩ : ∃ n, n = ([] ++ L.take j ++ [x] ++ L.drop j).length := ⟨_, rfl⟩
        rw [← hn3] at hv3
        subst hv3
        have HN3 := Lib.hid hn3
        clear hn3
        have OWN3 := Lib.hid hown3
        clear hown3 hgr3 hor3
        refine wpAnyL_ready (rs := [19]) (by kernel_rfl) (by simp) ?_
        refine AllReadyL.cons rfl (fun K hK => ?_) AllReadyL.nil
        simp only [List.getElem_toArray, List.getElem_cons_succ, List.getElem_cons_zero]
        go_simp
        refine hK.out _ _ (hHeld) (fun hHeld => ?_)
        clear hK K
        try simp only [List.getElem_toArray, List.getElem_cons_succ, List.getElem_cons_zero, Act.put, List.setIfInBounds_toArray, List.set_cons_zero, List.set_cons_succ]
        refine wpAnyL_take (i := 20) (v := ?_) rfl (by kernel_rfl) (by kernel_rfl) (by kernel_rfl) (by kernel_rfl) (fun _ _ _ h => h) (Or.inl ⟨rfl, ?_⟩) hHeld ?_
        rotate_left
        · (intro w hSw; (try dsimp only at hSw); go_simp; try (with_reducible rfl))
        simp only [List.getElem_toArray, List.getElem_cons_succ, List.getElem_cons_zero, Act.put, List.setIfInBounds_toArray, List.set_cons_zero, List.set_cons_succ]
        have hf18 : Fr [] W1 w18 := HZ.out.trans F18.out (fun y hy => .inl hy)
        have hd18 := (H.out.fr hf18).head
        have y5 : w18.frozen? ⟨b, 1, none⟩ = false := hd18.frozen 1
        have z5 := hHeld.1
        have hwd : w.heap.size ≤ wd.heap.size := (F.out.trans HZ.out (fun y hy => .inl hy)).size
        have HFIN := Lib.hid (show RhNext b base s (insL s L x) (.slice a L.length c) w (w18.setCell ⟨b, 1, none⟩ (.slice (some ⟨k3, 0, none⟩) n3 cap3)) by
          have hl3 : insL s L x = ([] ++ L.take j ++ [x]) ++ L.drop j := by unfold insL; rw [HIN.out, List.nil_append]
          rw [hl3]
          refine ⟨_, ⟨hd18.setCell 1 _, own_keep (own_low OWN3.out (by omega)) ((Fr.refl [b] w18).setCell (p := ⟨b, 1, none⟩) (.inl (by simp)) _) (fun y hy hyb => ?_), hbl⟩, ((F.out.trans hf18 (fun y hy => .inl hy)).mono (by simp)).setCell (.inl (by simp)) _, fun y hy => .inr (by have := (OWN3.out.lt y hy).1; omega)⟩
          have h1 := (OWN3.out.lt y hy).1
          simp at hyb
          omega)
        clear hf18 hd18
        refine wpAnyL_ready (rs := [21]) (by kernel_rfl) (by simp) ?_
        refine AllReadyL.end_ rfl (fun K hK => ?_)
        simp only [List.getElem_toArray, List.getElem_cons_succ, List.getElem_cons_zero]
        go_simp
        refine hK.out _ _ ?_
        clear hK K
        try simp only [List.getElem_toArray, List.getElem_cons_succ, List.getElem_cons_zero, Act.put, List.setIfInBounds_toArray, List.set_cons_zero, List.set_cons_succ]
        refine wpAnyL_done (by kernel_rfl) ?_ _
        clear hHeld y5 z5
        go_wp2_with fail
        go_ret
        exact ⟨rfl, HFIN.out⟩
end Go.Proofs.Ytpjmmhpkiepbmaa

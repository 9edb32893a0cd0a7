/- The walk of StoreDoes. (Printed by wip/gendoes.py.) -/
import Derived.Test.YtgknnfajilfpeaaRSto2
import Derived.Test.YtgknnfajilfpeaaActs
import Derived.Deep.RegionHeldLaw
import Derived.Deep.DrawnRows
set_option linter.unusedVariables false
set_option linter.unusedSimpArgs false
namespace Go.Proofs.Ytgknnfajilfpeaa
open Go.RowKit

theorem agg32 (w : World) : (isAgg 32).run Try.prog w = .ok true w := by kernel_rfl
theorem size32 : (Try.prog.info? 32).map (·.size) = some 4 := by kernel_rfl
theorem zero32 : (Try.prog.info? 32).map (fun i => (i.size, i.zero.map (·.cells.size))) = some (4, some 4) := by kernel_rfl
def actCells4 (a : ActD) : List Value := [.int .i64 a.kind, .int .i64 a.i, .int .i64 a.n, .string a.data]
theorem act_one (a : ActD) : ∀ u ∈ actCells4 a, u.oneCell' = true := by
  intro u hu
  simp [actCells4] at hu
  rcases hu with rfl | rfl | rfl | rfl <;> rfl
theorem Row.ne {w : World} {g g' : Nat} {t t' : TypeId} {C C' : List Value} (h : Row w g C t) (h' : Row w g' C' t') (hne : t ≠ t') : g ≠ g' := by
  rintro rfl
  unfold Row at h h'
  rw [h] at h'
  injection h' with h'
  injection h' with _ ht
  exact hne ht
structure Apart4 (b l b2 l2 : Nat) : Prop where
  bb : b ≠ b2
  bl : b ≠ l2
  lb : l ≠ b2
  ll : l ≠ l2
theorem apart4 {w : World} {b l c b2 l2 c2 : Nat} {s s' : StoS} (h : StoAt w b l c s) (h' : RefAt w b2 l2 c2 s') : Apart4 b l b2 l2 := by
  obtain ⟨C, hr⟩ := h.rest
  obtain ⟨C', hr'⟩ := h'.rest
  exact ⟨Row.ne h.head h'.head (by decide), Row.ne h.head hr' (by decide), Row.ne hr h'.head (by decide), Row.ne hr hr' (by decide)⟩
theorem write_n (s : StoS) (i : Int) (d : ByteArray) : (s.write i d).2.n = s.n := by
  unfold StoS.write
  split
  · rfl
  · split
    · rfl
    · split <;> rfl
set_option maxRecDepth 100000 in
set_option maxHeartbeats 4000000 in
theorem storeDoes_walk (a0 : Int) (a1 : Option Addr) (len1 cap1 : Nat) (L1 : Nat → ActD) (W : World) (f0 : (Lit.int .i64 a0).wf = true) (f1 : ActsAt W a1 len1 L1) :
    Calls Try.prog 3 #[.int .i64 a0, .slice a1 len1 cap1] W fun e w' => e = .returned (.bool true) ∧ Below W.heap.size W w' := by
  obtain ⟨hA0, hA1⟩ := wf_i64 f0
  have A1 := Lib.hid f1
  have hfew := f1.few
  clear f0 f1
  go_enter Try.func3, Try.ntmps3
  go_wp2_with fail
  refine (awake_any W).mono ?_
  rintro e w1 ⟨rfl, hbel⟩
  have B1 := Lib.hid hbel
  clear hbel
  by_cases hin : 1 ≤ a0 ∧ a0 ≤ 256
  · obtain ⟨n, rfl⟩ := Int.eq_ofNat_of_zero_le (by omega : 0 ≤ a0)
    have hn1 : 1 ≤ n := by omega
    have hn2 : n ≤ 256 := by omega
    clear hin hA0 hA1
    go_wp2_with fail
    refine (new_ok n w1 hn1 hn2).mono ?_
    rintro e w2 ⟨b, l, hb, hl, rfl, hS, hF⟩
    have S2 := Lib.hid hS
    have B2 := Lib.hid (B1.out.trans (hF.below (B := W.heap.size) (by simp) B1.out.size))
    have hbb := Nat.le_trans B1.out.size hb
    have hll := Nat.le_trans B1.out.size hl
    clear hS hF hb hl
    go_wp2_with fail
    refine (rnew_ok n w2 hn1 hn2).mono ?_
    rintro e w3 ⟨b2, l2, c2, hb, hl, rfl, hR, hF⟩
    have S3 := Lib.hid (S2.out.fr hF (by simp) (by simp))
    have R3 := Lib.hid hR
    have B3 := Lib.hid (B2.out.trans (hF.below (B := W.heap.size) (by simp) B2.out.size))
    have hbb2 := Nat.le_trans B2.out.size hb
    have hll2 := Nat.le_trans B2.out.size hl
    clear hR hF hb hl S2 B2 B1
    go_wp2_with fail
    go_loopg [9] 101 (fun k i wr => ∃ (j : Nat) (s : StoS), k = 101 - j ∧ j ≤ 100 ∧ i = .int .i64 j ∧ s.n = n ∧ StoAt wr b l n s ∧ RefAt wr b2 l2 c2 s ∧ Below W.heap.size W wr)
    case atStart => exact ⟨0, _, rfl, by omega, rfl, rfl, S3.out, R3.out, B3.out⟩
    case round =>
      obtain ⟨j, s, rfl, hj, rfl, hsn, hS, hR, hB⟩ := hrel
      have AP := Lib.hid (apart4 hS hR)
      have S := Lib.hid hS
      have R := Lib.hid hR
      have B := Lib.hid hB
      clear hS hR hB
      by_cases hin : j < len1 ∧ j < 100
      · obtain ⟨hjl, hj100⟩ := hin
        have hd1 : decide (j < len1) = true := by simpa using hjl
        have hd2 : decide ((j : Int) < 100) = true := by rw [decide_eq_true_iff]; omega
        obtain ⟨bb, oo, rfl, hbb', hcell⟩ := A1.out.at_ (by omega)
        obtain ⟨hc0, hc1, hc2, hc3⟩ := hcell j hjl
        have hok := A1.out.ok j hjl
        have hsub : ∀ k v, (actCells4 (L1 j))[k]? = some v → wr.cell? ⟨bb, oo + j * 4 + k, none⟩ = some v := by
          intro k v hk
          rw [B.out.cell (p := ⟨bb, _, none⟩) hbb', Nat.add_assoc]
          match k, hk with
          | 0, hk => injection hk with hk; rw [← hk]; exact hc0
          | 1, hk => injection hk with hk; rw [← hk]; exact hc1
          | 2, hk => injection hk with hk; rw [← hk]; exact hc2
          | 3, hk => injection hk with hk; rw [← hk]; exact hc3
          | k + 4, hk => simp [actCells4] at hk
        have SUB := Lib.hid hsub
        obtain ⟨⟨hi1, hi2⟩, ⟨hn3, hn4⟩, hsz, ⟨hk1, hk2⟩⟩ := hok
        clear hcell hc0 hc1 hc2 hc3 hsub
        generalize L1 j = a at SUB hi1 hi2 hn3 hn4 hsz hk1 hk2
        go_wp2_with (first | ((with_reducible refine wpList_load_at rfl 32 (.tmp 54) rfl agg32 4 size32 bb (oo + j * 4) (actCells4 a) rfl SUB.out ?_ ?_); exact rfl) | ((with_reducible refine wpList_var_agg rfl rfl 32 (.tmp 10) (.tmp 55) rfl rfl 4 zero32 (actCells4 a) rfl (act_one a) ?_ ?_ ?_); exact rfl; exact rfl))
        intro w4 hr4 hs4 hf4
        have S4 := Lib.hid (S.out.fr hf4 (by simp) (by simp))
        have R4 := Lib.hid (R.out.fr hf4 (by simp) (by simp))
        have B4 := Lib.hid (B.out.trans (hf4.below (B := W.heap.size) (by simp) B.out.size))
        have hxb : W.heap.size ≤ wr.heap.size := B.out.size
        have X4 := Lib.hid hr4
        have q0 := hr4.cell 0
        have q1 := hr4.cell 1
        have q2 := hr4.cell 2
        have q3 := hr4.cell 3
        simp [actCells4] at q0 q1 q2 q3
        clear hs4 hf4 hr4 S R B
        generalize wr.heap.size = xg at X4 q0 q1 q2 q3 hxb ⊢
        obtain ⟨C55, hr55⟩ := S4.out.rest
        have hxb1 := Row.ne X4.out S4.out.head (by decide)
        have hxl1 := Row.ne X4.out hr55 (by decide)
        obtain ⟨C9, hr9⟩ := R4.out.rest
        have hxb2 := Row.ne X4.out R4.out.head (by decide)
        have hxl2 := Row.ne X4.out hr9 (by decide)
        clear hr55 hr9
        by_cases hx : 200 < a.data.size
        · have hdx : decide ((a.data.size : Int) > 200) = true := by rw [decide_eq_true_iff]; omega
          go_wp2_with fail
          go_ret
          exact ⟨rfl, B4.out⟩
        · have hdx : decide ((a.data.size : Int) > 200) = false := by rw [decide_eq_false_iff_not]; omega
          by_cases h0 : a.kind = 0
          · have e0 : (a.kind == 0) = true := by simpa using h0
            go_wp2_with fail
            refine (block_any a.data w4 hsz).mono ?_
            rintro e w4' ⟨rfl, rfl⟩
            generalize blockS a.data = d
            go_wp2_with fail
            have KP := Lib.hid (fun w' (f : Fr [b, l] (w4.drewN 1) w') => (((X4.out.drewN 1).fr f (by simp [hxb1, hxl1])).cell 1 : w'.cell? ⟨xg, 1, none⟩ = some (.int .i64 a.i)))
            have KP2 := Lib.hid (fun w' w'' (f : Fr [b, l] (w4.drewN 1) w') (f' : Fr [b2, l2] w' w'') => ((((X4.out.drewN 1).fr f (by simp [hxb1, hxl1])).fr f' (by simp [hxb2, hxl2])).cell 1 : w''.cell? ⟨xg, 1, none⟩ = some (.int .i64 a.i)))
            have RR := Lib.hid (fun w' (f : Fr [b, l] (w4.drewN 1) w') => ((R4.out.fr ((Fr.refl [] w4).drewN 1) (by simp) (by simp)).fr f (by simp [Ne.symm AP.out.bb, Ne.symm AP.out.lb]) (by simp [Ne.symm AP.out.bl, Ne.symm AP.out.ll]) : RefAt w' b2 l2 c2 s))
            go_region_held_law (fun w' => w'.cell? ⟨xg, 1, none⟩ = some (.int .i64 a.i)) (first | exact KP.out _ hf5 | exact KP2.out _ _ hf5 hf6 | go_keep) (first | (go_at_call 11; refine (write_any b l n s a.i d _ (S4.out.drewN 1)).mono ?_; rintro e v5 ⟨rfl, hs5, hf5⟩) | (go_at_call 12; refine (rwrite_any b2 l2 c2 s a.i d _ (RR.out _ hf5)).mono ?_; rintro e w5 ⟨rfl, hs6, hf6⟩))
            all_goals
              have N5 := write_n s a.i d
              rw [hsn] at N5
              have S5 := Lib.hid (hs5.fr hf6 (by simp [AP.out.bb, AP.out.bl]) (by simp [AP.out.lb, AP.out.ll]))
              have R5 := Lib.hid hs6
              have X5 := Lib.hid (((X4.out.drewN 1).fr hf5 (by simp [hxb1, hxl1])).fr hf6 (by simp [hxb2, hxl2]))
              have B5 := Lib.hid (B4.out.trans (((((Fr.refl [b, l] w4).drewN 1).trans hf5 (by simp)).below (B := W.heap.size) (by simp; omega) B4.out.size).trans (hf6.below (B := W.heap.size) (by simp; omega) (Nat.le_trans B4.out.size hf5.size))))
              clear hs5 hs6 hf5 hf6 KP KP2 RR S4 R4 X4 B4 hsn
              generalize (s.write a.i d).2 = s5 at S5 R5 N5
              generalize (s.write a.i d).1 = we
              go_wp2_with fail
              have x5 : w5.cell? ⟨xg, 1, none⟩ = some (.int .i64 a.i) := X5.out.cell 1
              go_wp2_with fail
              refine (read_any b l n s5 a.i w5 S5.out).mono ?_
              rintro e w6 ⟨rfl, hf⟩
              have S6 := Lib.hid (S5.out.fr hf (by simp) (by simp))
              have R6 := Lib.hid (R5.out.fr hf (by simp) (by simp))
              have X6 := Lib.hid (Row.fr X5.out hf (by simp))
              have B6 := Lib.hid (B5.out.trans (hf.below (B := W.heap.size) (by simp) B5.out.size))
              have x1 : w6.cell? ⟨xg, 1, none⟩ = some (.int .i64 a.i) := X6.out.cell 1
              clear hf x5
              go_wp2_with fail
              refine (rread_any b2 l2 c2 s5 a.i w6 R6.out).mono ?_
              rintro e w7 ⟨rfl, rfl⟩
              have r0 := R6.out.head.cell 0
              have r3 := R6.out.head.cell 3
              have r4 := R6.out.head.cell 4
              simp at r0 r3 r4
              generalize s5.block a.i = blk
              generalize s5.mayE a.i = ee
              go_wp2_with fail
              go_region_held_law (fun w' => w'.cell? ⟨b2, 0, none⟩ = some (.slice (some ⟨l2, 0, none⟩) s5.n c2) ∧ w'.cell? ⟨b2, 3, none⟩ = some (.bool s5.down) ∧ w'.cell? ⟨b2, 4, none⟩ = some (.int .i64 s5.writes)) (go_keep) (first | (go_at_call 19; refine (down_any b l n s5 _ (S6.out.drewN 1)).mono ?_; rintro e w' ⟨rfl, rfl⟩) | (go_at_call 20; refine (writes_any b l n s5 _ (S6.out.drewN 1)).mono ?_; rintro e w' ⟨rfl, rfl⟩) | (go_at_call 21; refine (blocks_any b l n s5 _ (S6.out.drewN 1)).mono ?_; rintro e w' ⟨rfl, rfl⟩))
              all_goals
                go_wp2_with fail
                go_roundg (101 - (j + 1))
                case measure => omega
                case rel => exact ⟨j + 1, s5, rfl, by omega, rfl, N5, S6.out.drewN 1, R6.out.fr ((Fr.refl [] w6).drewN 1) (by simp) (by simp), B6.out.trans (((Fr.refl [] w6).drewN 1).below (B := W.heap.size) (by simp) B6.out.size)⟩
          · by_cases h1 : a.kind = 1
            · have e0 : (a.kind == 0) = false := by simpa using h0
              have e1 : (a.kind == 1) = true := by simpa using h1
              go_wp2_with fail
              have KP := Lib.hid (fun w' (f : Fr [b, l] (w4.drewN 1) w') => (((X4.out.drewN 1).fr f (by simp [hxb1, hxl1])).cell 1 : w'.cell? ⟨xg, 1, none⟩ = some (.int .i64 a.i)))
              have KP2 := Lib.hid (fun w' w'' (f : Fr [b, l] (w4.drewN 1) w') (f' : Fr [b2, l2] w' w'') => ((((X4.out.drewN 1).fr f (by simp [hxb1, hxl1])).fr f' (by simp [hxb2, hxl2])).cell 1 : w''.cell? ⟨xg, 1, none⟩ = some (.int .i64 a.i)))
              have RR := Lib.hid (fun w' (f : Fr [b, l] (w4.drewN 1) w') => ((R4.out.fr ((Fr.refl [] w4).drewN 1) (by simp) (by simp)).fr f (by simp [Ne.symm AP.out.bb, Ne.symm AP.out.lb]) (by simp [Ne.symm AP.out.bl, Ne.symm AP.out.ll]) : RefAt w' b2 l2 c2 s))
              go_region_held_law (fun w' => w'.cell? ⟨xg, 1, none⟩ = some (.int .i64 a.i)) (first | exact KP.out _ hf5 | exact KP2.out _ _ hf5 hf6 | go_keep) (first | (go_at_call 11; refine (write_any b l n s a.i a.data _ (S4.out.drewN 1)).mono ?_; rintro e v5 ⟨rfl, hs5, hf5⟩) | (go_at_call 12; refine (rwrite_any b2 l2 c2 s a.i a.data _ (RR.out _ hf5)).mono ?_; rintro e w5 ⟨rfl, hs6, hf6⟩))
              all_goals
                have N5 := write_n s a.i a.data
                rw [hsn] at N5
                have S5 := Lib.hid (hs5.fr hf6 (by simp [AP.out.bb, AP.out.bl]) (by simp [AP.out.lb, AP.out.ll]))
                have R5 := Lib.hid hs6
                have X5 := Lib.hid (((X4.out.drewN 1).fr hf5 (by simp [hxb1, hxl1])).fr hf6 (by simp [hxb2, hxl2]))
                have B5 := Lib.hid (B4.out.trans (((((Fr.refl [b, l] w4).drewN 1).trans hf5 (by simp)).below (B := W.heap.size) (by simp; omega) B4.out.size).trans (hf6.below (B := W.heap.size) (by simp; omega) (Nat.le_trans B4.out.size hf5.size))))
                clear hs5 hs6 hf5 hf6 KP KP2 RR S4 R4 X4 B4 hsn
                generalize (s.write a.i a.data).2 = s5 at S5 R5 N5
                generalize (s.write a.i a.data).1 = we
                go_wp2_with fail
                have x5 : w5.cell? ⟨xg, 1, none⟩ = some (.int .i64 a.i) := X5.out.cell 1
                go_wp2_with fail
                refine (read_any b l n s5 a.i w5 S5.out).mono ?_
                rintro e w6 ⟨rfl, hf⟩
                have S6 := Lib.hid (S5.out.fr hf (by simp) (by simp))
                have R6 := Lib.hid (R5.out.fr hf (by simp) (by simp))
                have X6 := Lib.hid (Row.fr X5.out hf (by simp))
                have B6 := Lib.hid (B5.out.trans (hf.below (B := W.heap.size) (by simp) B5.out.size))
                have x1 : w6.cell? ⟨xg, 1, none⟩ = some (.int .i64 a.i) := X6.out.cell 1
                clear hf x5
                go_wp2_with fail
                refine (rread_any b2 l2 c2 s5 a.i w6 R6.out).mono ?_
                rintro e w7 ⟨rfl, rfl⟩
                have r0 := R6.out.head.cell 0
                have r3 := R6.out.head.cell 3
                have r4 := R6.out.head.cell 4
                simp at r0 r3 r4
                generalize s5.block a.i = blk
                generalize s5.mayE a.i = ee
                go_wp2_with fail
                go_region_held_law (fun w' => w'.cell? ⟨b2, 0, none⟩ = some (.slice (some ⟨l2, 0, none⟩) s5.n c2) ∧ w'.cell? ⟨b2, 3, none⟩ = some (.bool s5.down) ∧ w'.cell? ⟨b2, 4, none⟩ = some (.int .i64 s5.writes)) (go_keep) (first | (go_at_call 19; refine (down_any b l n s5 _ (S6.out.drewN 1)).mono ?_; rintro e w' ⟨rfl, rfl⟩) | (go_at_call 20; refine (writes_any b l n s5 _ (S6.out.drewN 1)).mono ?_; rintro e w' ⟨rfl, rfl⟩) | (go_at_call 21; refine (blocks_any b l n s5 _ (S6.out.drewN 1)).mono ?_; rintro e w' ⟨rfl, rfl⟩))
                all_goals
                  go_wp2_with fail
                  go_roundg (101 - (j + 1))
                  case measure => omega
                  case rel => exact ⟨j + 1, s5, rfl, by omega, rfl, N5, S6.out.drewN 1, R6.out.fr ((Fr.refl [] w6).drewN 1) (by simp) (by simp), B6.out.trans (((Fr.refl [] w6).drewN 1).below (B := W.heap.size) (by simp) B6.out.size)⟩
            · by_cases h2 : a.kind = 2
              · have e0 : (a.kind == 0) = false := by simpa using h0
                have e1 : (a.kind == 1) = false := by simpa using h1
                have e2 : (a.kind == 2) = true := by simpa using h2
                go_wp2_with fail
                refine (fuse_any b l n s a.i a.n w4 S4.out hi2).mono ?_
                rintro e v5 ⟨rfl, hs5, hf5⟩
                have x5 : v5.cell? ⟨xg, 1, none⟩ = some (.int .i64 a.i) := (X4.out.fr hf5 (by simp [hxb1])).cell 1
                have x6 : v5.cell? ⟨xg, 2, none⟩ = some (.int .i64 a.n) := (X4.out.fr hf5 (by simp [hxb1])).cell 2
                go_wp2_with fail
                refine (rfuse_any b2 l2 c2 s a.i a.n v5 (R4.out.fr hf5 (by simp [Ne.symm AP.out.bb]) (by simp [Ne.symm AP.out.bl])) hi2).mono ?_
                rintro e w5 ⟨rfl, hs6, hf6⟩
                have N5 : (s.setFuse a.i a.n).n = n := hsn
                have S5 := Lib.hid (hs5.fr hf6 (by simp [AP.out.bb]) (by simp [AP.out.lb]))
                have R5 := Lib.hid hs6
                have X5 := Lib.hid ((X4.out.fr hf5 (by simp [hxb1])).fr hf6 (by simp [hxb2]))
                have B5 := Lib.hid (B4.out.trans ((hf5.below (B := W.heap.size) (by simp; omega) B4.out.size).trans (hf6.below (B := W.heap.size) (by simp; omega) (Nat.le_trans B4.out.size hf5.size))))
                clear hs5 hs6 hf5 hf6 x5 x6 S4 R4 X4 B4 hsn
                generalize s.setFuse a.i a.n = s5 at S5 R5 N5
                have x5 : w5.cell? ⟨xg, 1, none⟩ = some (.int .i64 a.i) := X5.out.cell 1
                go_wp2_with fail
                refine (read_any b l n s5 a.i w5 S5.out).mono ?_
                rintro e w6 ⟨rfl, hf⟩
                have S6 := Lib.hid (S5.out.fr hf (by simp) (by simp))
                have R6 := Lib.hid (R5.out.fr hf (by simp) (by simp))
                have X6 := Lib.hid (Row.fr X5.out hf (by simp))
                have B6 := Lib.hid (B5.out.trans (hf.below (B := W.heap.size) (by simp) B5.out.size))
                have x1 : w6.cell? ⟨xg, 1, none⟩ = some (.int .i64 a.i) := X6.out.cell 1
                clear hf x5
                go_wp2_with fail
                refine (rread_any b2 l2 c2 s5 a.i w6 R6.out).mono ?_
                rintro e w7 ⟨rfl, rfl⟩
                have r0 := R6.out.head.cell 0
                have r3 := R6.out.head.cell 3
                have r4 := R6.out.head.cell 4
                simp at r0 r3 r4
                generalize s5.block a.i = blk
                generalize s5.mayE a.i = ee
                go_wp2_with fail
                go_region_held_law (fun w' => w'.cell? ⟨b2, 0, none⟩ = some (.slice (some ⟨l2, 0, none⟩) s5.n c2) ∧ w'.cell? ⟨b2, 3, none⟩ = some (.bool s5.down) ∧ w'.cell? ⟨b2, 4, none⟩ = some (.int .i64 s5.writes)) (go_keep) (first | (go_at_call 19; refine (down_any b l n s5 _ (S6.out.drewN 1)).mono ?_; rintro e w' ⟨rfl, rfl⟩) | (go_at_call 20; refine (writes_any b l n s5 _ (S6.out.drewN 1)).mono ?_; rintro e w' ⟨rfl, rfl⟩) | (go_at_call 21; refine (blocks_any b l n s5 _ (S6.out.drewN 1)).mono ?_; rintro e w' ⟨rfl, rfl⟩))
                all_goals
                  go_wp2_with fail
                  go_roundg (101 - (j + 1))
                  case measure => omega
                  case rel => exact ⟨j + 1, s5, rfl, by omega, rfl, N5, S6.out.drewN 1, R6.out.fr ((Fr.refl [] w6).drewN 1) (by simp) (by simp), B6.out.trans (((Fr.refl [] w6).drewN 1).below (B := W.heap.size) (by simp) B6.out.size)⟩
              · by_cases h3 : a.kind = 3
                · have e0 : (a.kind == 0) = false := by simpa using h0
                  have e1 : (a.kind == 1) = false := by simpa using h1
                  have e2 : (a.kind == 2) = false := by simpa using h2
                  have e3 : (a.kind == 3) = true := by simpa using h3
                  go_wp2_with fail
                  refine (up_any b l n s w4 S4.out).mono ?_
                  rintro e v5 ⟨rfl, hs5, hf5⟩
                  go_wp2_with fail
                  refine (rup_any b2 l2 c2 s v5 (R4.out.fr hf5 (by simp [Ne.symm AP.out.bb]) (by simp [Ne.symm AP.out.bl]))).mono ?_
                  rintro e w5 ⟨rfl, hs6, hf6⟩
                  have N5 : s.up.n = n := hsn
                  have S5 := Lib.hid (hs5.fr hf6 (by simp [AP.out.bb]) (by simp [AP.out.lb]))
                  have R5 := Lib.hid hs6
                  have X5 := Lib.hid ((X4.out.fr hf5 (by simp [hxb1])).fr hf6 (by simp [hxb2]))
                  have B5 := Lib.hid (B4.out.trans ((hf5.below (B := W.heap.size) (by simp; omega) B4.out.size).trans (hf6.below (B := W.heap.size) (by simp; omega) (Nat.le_trans B4.out.size hf5.size))))
                  have x5 : w5.cell? ⟨xg, 1, none⟩ = some (.int .i64 a.i) := X5.out.cell 1
                  clear hs5 hs6 hf5 hf6 S4 R4 X4 B4 hsn
                  generalize s.up = s5 at S5 R5 N5
                  have x5 : w5.cell? ⟨xg, 1, none⟩ = some (.int .i64 a.i) := X5.out.cell 1
                  go_wp2_with fail
                  refine (read_any b l n s5 a.i w5 S5.out).mono ?_
                  rintro e w6 ⟨rfl, hf⟩
                  have S6 := Lib.hid (S5.out.fr hf (by simp) (by simp))
                  have R6 := Lib.hid (R5.out.fr hf (by simp) (by simp))
                  have X6 := Lib.hid (Row.fr X5.out hf (by simp))
                  have B6 := Lib.hid (B5.out.trans (hf.below (B := W.heap.size) (by simp) B5.out.size))
                  have x1 : w6.cell? ⟨xg, 1, none⟩ = some (.int .i64 a.i) := X6.out.cell 1
                  clear hf x5
                  go_wp2_with fail
                  refine (rread_any b2 l2 c2 s5 a.i w6 R6.out).mono ?_
                  rintro e w7 ⟨rfl, rfl⟩
                  have r0 := R6.out.head.cell 0
                  have r3 := R6.out.head.cell 3
                  have r4 := R6.out.head.cell 4
                  simp at r0 r3 r4
                  generalize s5.block a.i = blk
                  generalize s5.mayE a.i = ee
                  go_wp2_with fail
                  go_region_held_law (fun w' => w'.cell? ⟨b2, 0, none⟩ = some (.slice (some ⟨l2, 0, none⟩) s5.n c2) ∧ w'.cell? ⟨b2, 3, none⟩ = some (.bool s5.down) ∧ w'.cell? ⟨b2, 4, none⟩ = some (.int .i64 s5.writes)) (go_keep) (first | (go_at_call 19; refine (down_any b l n s5 _ (S6.out.drewN 1)).mono ?_; rintro e w' ⟨rfl, rfl⟩) | (go_at_call 20; refine (writes_any b l n s5 _ (S6.out.drewN 1)).mono ?_; rintro e w' ⟨rfl, rfl⟩) | (go_at_call 21; refine (blocks_any b l n s5 _ (S6.out.drewN 1)).mono ?_; rintro e w' ⟨rfl, rfl⟩))
                  all_goals
                    go_wp2_with fail
                    go_roundg (101 - (j + 1))
                    case measure => omega
                    case rel => exact ⟨j + 1, s5, rfl, by omega, rfl, N5, S6.out.drewN 1, R6.out.fr ((Fr.refl [] w6).drewN 1) (by simp) (by simp), B6.out.trans (((Fr.refl [] w6).drewN 1).below (B := W.heap.size) (by simp) B6.out.size)⟩
                · have e0 : (a.kind == 0) = false := by simpa using h0
                  have e1 : (a.kind == 1) = false := by simpa using h1
                  have e2 : (a.kind == 2) = false := by simpa using h2
                  have e3 : (a.kind == 3) = false := by simpa using h3
                  go_wp2_with fail
                  have N5 : s.n = n := hsn
                  obtain ⟨w5, hw5⟩ : ∃ w5, w5 = w4 := ⟨_, rfl⟩
                  obtain ⟨s5, hs5⟩ : ∃ s5, s5 = s := ⟨_, rfl⟩
                  have S5 := S4
                  have R5 := R4
                  have X5 := X4
                  have B5 := B4
                  subst hw5 hs5
                  have x5 : w5.cell? ⟨xg, 1, none⟩ = some (.int .i64 a.i) := X5.out.cell 1
                  go_wp2_with fail
                  refine (read_any b l n s5 a.i w5 S5.out).mono ?_
                  rintro e w6 ⟨rfl, hf⟩
                  have S6 := Lib.hid (S5.out.fr hf (by simp) (by simp))
                  have R6 := Lib.hid (R5.out.fr hf (by simp) (by simp))
                  have X6 := Lib.hid (Row.fr X5.out hf (by simp))
                  have B6 := Lib.hid (B5.out.trans (hf.below (B := W.heap.size) (by simp) B5.out.size))
                  have x1 : w6.cell? ⟨xg, 1, none⟩ = some (.int .i64 a.i) := X6.out.cell 1
                  clear hf x5
                  go_wp2_with fail
                  refine (rread_any b2 l2 c2 s5 a.i w6 R6.out).mono ?_
                  rintro e w7 ⟨rfl, rfl⟩
                  have r0 := R6.out.head.cell 0
                  have r3 := R6.out.head.cell 3
                  have r4 := R6.out.head.cell 4
                  simp at r0 r3 r4
                  generalize s5.block a.i = blk
                  generalize s5.mayE a.i = ee
                  go_wp2_with fail
                  go_region_held_law (fun w' => w'.cell? ⟨b2, 0, none⟩ = some (.slice (some ⟨l2, 0, none⟩) s5.n c2) ∧ w'.cell? ⟨b2, 3, none⟩ = some (.bool s5.down) ∧ w'.cell? ⟨b2, 4, none⟩ = some (.int .i64 s5.writes)) (go_keep) (first | (go_at_call 19; refine (down_any b l n s5 _ (S6.out.drewN 1)).mono ?_; rintro e w' ⟨rfl, rfl⟩) | (go_at_call 20; refine (writes_any b l n s5 _ (S6.out.drewN 1)).mono ?_; rintro e w' ⟨rfl, rfl⟩) | (go_at_call 21; refine (blocks_any b l n s5 _ (S6.out.drewN 1)).mono ?_; rintro e w' ⟨rfl, rfl⟩))
                  all_goals
                    go_wp2_with fail
                    go_roundg (101 - (j + 1))
                    case measure => omega
                    case rel => exact ⟨j + 1, s5, rfl, by omega, rfl, N5, S6.out.drewN 1, R6.out.fr ((Fr.refl [] w6).drewN 1) (by simp) (by simp), B6.out.trans (((Fr.refl [] w6).drewN 1).below (B := W.heap.size) (by simp) B6.out.size)⟩
      · have hex : decide (j < len1) = false ∨ (decide (j < len1) = true ∧ decide ((j : Int) < 100) = false) := by
          by_cases h : j < len1
          · exact .inr ⟨by simpa using h, by rw [decide_eq_false_iff_not]; omega⟩
          · exact .inl (by simpa using h)
        have hpos : 1 ≤ s.n := by omega
        clear hin
        rcases hex with hd1 | ⟨hd1, hd2⟩
        all_goals
          go_wp2_with fail
          refine (bytes_any b l n s wr S.out hpos).mono ?_
          rintro e w5 ⟨rfl, hf⟩
          have R5 := Lib.hid (R.out.fr (Fr.of_below hf []) (by simp) (by simp))
          have B5 := Lib.hid (B.out.trans (hf.mono B.out.size))
          clear hf
          go_wp2_with fail
          refine (rbytes_any b2 l2 c2 s w5 R5.out).mono ?_
          rintro e w6 ⟨rfl, rfl⟩
          generalize (⟨s.bs.toArray⟩ : ByteArray) = bs
          go_wp2_with fail
          go_ret
          exact ⟨rfl, B5.out⟩
  · go_wp2_with fail
    refine (new_no a0 w1 (by omega)).mono ?_
    rintro e w2 ⟨rfl, rfl⟩
    go_wp2_with fail
    refine (rnew_no a0 w1 (by omega)).mono ?_
    rintro e w2 ⟨rfl, rfl⟩
    go_wp2_with fail
    go_loopg [9] 1 (fun k i wr => i = .int .i64 0 ∧ w1 = wr)
    case atStart => exact ⟨rfl, rfl⟩
    case round =>
      obtain ⟨rfl, rfl⟩ := hrel
      by_cases hl : 0 < len1
      · have hd1 : decide ((0 : Int) < len1) = true := by rw [decide_eq_true_iff]; omega
        have hd2 : decide (0 < len1) = true := by rw [decide_eq_true_iff]; omega
        go_wp2_with fail
        go_ret
        exact ⟨rfl, B1.out⟩
      · have hd1 : decide ((0 : Int) < len1) = false := by rw [decide_eq_false_iff_not]; omega
        have hd2 : decide (0 < len1) = false := by rw [decide_eq_false_iff_not]; omega
        go_wp2_with fail
        go_ret
        exact ⟨rfl, B1.out⟩
end Go.Proofs.Ytgknnfajilfpeaa

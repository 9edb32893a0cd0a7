/- The walk of StoreApart. -/
import Derived.Test.YtgknnfajilfpeaaSto4
import Derived.Test.YtgknnfajilfpeaaActs
import Derived.Test.YtgknnfajilfpeaaPure
set_option linter.unusedVariables false
set_option linter.unusedSimpArgs false
namespace Go.Proofs.Ytgknnfajilfpeaa
open Go.RowKit

set_option maxRecDepth 100000 in
set_option maxHeartbeats 2000000 in
theorem storeApart_walk (a0 : Option Addr) (len0 cap0 : Nat) (L0 : Nat → ActD) (a1 : Option Addr) (len1 cap1 : Nat) (L1 : Nat → ActD) (W : World) (f0 : ActsAt W a0 len0 L0) (f1 : ActsAt W a1 len1 L1) :
    Calls Try.prog 6 #[.slice a0 len0 cap0, .slice a1 len1 cap1] W fun e w' => e = .returned (.bool true) ∧ Below W.heap.size W w' := by
  have F0 := Lib.hid f0
  have hfew0 := f0.few
  have F1 := Lib.hid f1
  have hfew := f1.few
  clear f0 f1
  go_enter Try.func6, Try.ntmps6
  go_wp2_with fail
  refine (awake_any W).mono ?_
  rintro e w1 ⟨rfl, hbel⟩
  have B1 := Lib.hid hbel
  clear hbel
  go_wp2_with fail
  refine (new_ok 9 w1 (by omega) (by omega)).mono ?_
  rintro e w2 ⟨b, l, hb, hl, rfl, hs, hf⟩
  have S2 := Lib.hid hs
  have B2 := Lib.hid (B1.out.trans (hf.below (B := W.heap.size) (by simp) B1.out.size))
  have hbb := Nat.le_trans B1.out.size hb
  have hll := Nat.le_trans B1.out.size hl
  clear hs hf B1 hb hl
  go_wp2_with fail
  go_loopg [7] 41 (fun k i wr => ∃ (j : Nat) (s : StoS), k = 41 - j ∧ j ≤ 40 ∧ i = .int .i64 j ∧ Plain 9 s ∧ StoAt wr b l 9 s ∧ Below W.heap.size W wr)
  case atStart => exact ⟨0, _, rfl, by omega, rfl, Plain.fresh 9, S2.out, B2.out⟩
  case round =>
    obtain ⟨j, s, rfl, hj, rfl, hI, hS, hB⟩ := hrel
    have I := Lib.hid hI
    have S := Lib.hid hS
    have B := Lib.hid hB
    clear hI hS hB
    by_cases hin : j < len0 ∧ j < 40
    · obtain ⟨hjl, hj40⟩ := hin
      have hd1 : decide (j < len0) = true := by simpa using hjl
      have hd2 : decide ((j : Int) < 40) = true := by rw [decide_eq_true_iff]; omega
      obtain ⟨bb, oo, rfl, hbb', hcell⟩ := F0.out.at_ (by omega)
      obtain ⟨_, hc1, _, hc3⟩ := hcell j hjl
      rw [← B.out.cell (p := ⟨bb, _, none⟩) hbb', ← Nat.add_assoc] at hc1 hc3
      have hok := F0.out.ok j hjl
      have hsz := hok.2.2.1
      clear hcell hok
      generalize L0 j = x at hc1 hc3 hsz
      by_cases hx : 200 < x.data.size
      · have hdx : decide ((x.data.size : Int) > 200) = true := by rw [decide_eq_true_iff]; omega
        go_wp2_with fail
        go_ret
        exact ⟨rfl, B.out⟩
      · have hdx : decide ((x.data.size : Int) > 200) = false := by rw [decide_eq_false_iff_not]; omega
        go_wp2_with fail
        refine wp_region_still_tail 12 (by kernel_rfl) (by kernel_rfl) ?_
        simp only [List.take_succ_cons, List.take_zero, List.drop_succ_cons, List.drop_zero]
        repeat still_step
        still_call (still_eq (block_any x.data _ hsz))
        refine wpStill_nil ?_
        go_wp2_with (go_at_call 11; refine (write_any b l 9 s x.i (blockS x.data) _ (S.out.drewN 1)).mono ?_)
        rintro e w5 ⟨rfl, hs5, hf5⟩
        have S5 := Lib.hid hs5
        have I5 := Lib.hid (I.out.write x.i (blockS x.data))
        have B5 := Lib.hid (B.out.trans ((((Fr.refl [b, l] wr).drewN 1).trans hf5 (by simp)).below (B := W.heap.size) (by simp; omega) B.out.size))
        clear hs5 hf5
        go_wp2_with fail
        go_roundg (41 - (j + 1))
        case measure => omega
        case rel => exact ⟨j + 1, _, rfl, by omega, rfl, I5.out, S5.out, B5.out⟩
    · have hex : decide (j < len0) = false ∨ (decide (j < len0) = true ∧ decide ((j : Int) < 40) = false) := by
        by_cases h : j < len0
        · exact .inr ⟨by simpa using h, by rw [decide_eq_false_iff_not]; omega⟩
        · exact .inl (by simpa using h)
      have hpos : 1 ≤ s.n := by rw [I.out.n]; omega
      clear hin hfew0
      rcases hex with hd1 | ⟨hd1, hd2⟩
      all_goals
        go_wp2_with fail
        refine (copy_any b l 9 s wr S.out hpos).mono ?_
        rintro e w5 ⟨b2, l2, c2, hb2, hl2, rfl, hk, hf⟩
        have hlt := S.out.lt
        have S5 := Lib.hid (S.out.fr hf (by simp) (by simp))
        have K5 := Lib.hid hk
        have B5 := Lib.hid (B.out.trans (hf.below (B := W.heap.size) (by simp) B.out.size))
        clear hk hf
        go_wp2_with fail
        refine (bytes_any b2 l2 c2 s w5 K5.out hpos).mono ?_
        rintro e w6 ⟨rfl, hf⟩
        have S6 := Lib.hid (S5.out.fr (Fr.of_below hf []) (by simp) (by simp))
        have K6 := Lib.hid (K5.out.fr (Fr.of_below hf []) (by simp) (by simp))
        have B6 := Lib.hid (B5.out.trans (hf.mono B5.out.size))
        clear hf
        go_wp2_with fail
        refine (bytes_any b l 9 s w6 S6.out hpos).mono ?_
        rintro e w7 ⟨rfl, hf⟩
        have S7 := Lib.hid (S6.out.fr (Fr.of_below hf []) (by simp) (by simp))
        have K7 := Lib.hid (K6.out.fr (Fr.of_below hf []) (by simp) (by simp))
        have B7 := Lib.hid (B6.out.trans (hf.mono B6.out.size))
        clear hf
        go_wp2_with fail
        refine (writes_any b2 l2 c2 s w7 K7.out).mono ?_
        rintro e w7' ⟨rfl, rfl⟩
        go_wp2_with fail
        refine (writes_any b l 9 s w7 S7.out).mono ?_
        rintro e w7' ⟨rfl, rfl⟩
        go_wp2_with fail
        refine (bytes_any b l 9 s w7 S7.out hpos).mono ?_
        rintro e w8 ⟨rfl, hf⟩
        have S8 := Lib.hid (S7.out.fr (Fr.of_below hf []) (by simp) (by simp))
        have K8 := Lib.hid (K7.out.fr (Fr.of_below hf []) (by simp) (by simp))
        have B8 := Lib.hid (B7.out.trans (hf.mono B7.out.size))
        clear hf
        have I0 := Lib.hid I.out
        have hB0 := B.out.size
        clear B S S2 B2 S5 K5 B5 S6 K6 B6 S7 K7 B7
        go_wp2_with fail
        have hne : b2 ≠ b ∧ b2 ≠ l ∧ l2 ≠ b ∧ l2 ≠ l := by omega
        have hb2' : W.heap.size ≤ b2 := by omega
        have hl2' : W.heap.size ≤ l2 := by omega
        obtain ⟨n1, n2, n3, n4⟩ := hne
        have N1 := Lib.hid n1
        have N2 := Lib.hid n2
        have N3 := Lib.hid n3
        have N4 := Lib.hid n4
        clear n1 n2 n3 n4 hlt hb2 hl2 hd1 hj
        try clear hd2
        go_loopg [10] 41 (fun k i wq => ∃ (j : Nat) (t : StoS), k = 41 - j ∧ j ≤ 40 ∧ i = .int .i64 j ∧ StoAt wq b2 l2 c2 t ∧ StoAt wq b l 9 s ∧ Below W.heap.size W wq)
        case atStart => exact ⟨0, s, rfl, by omega, rfl, K8.out, S8.out, B8.out⟩
        case round =>
          obtain ⟨i, t, rfl, hj, rfl, hK, hS, hB⟩ := hrel
          rename_i wq
          have K := Lib.hid hK
          have S := Lib.hid hS
          have B := Lib.hid hB
          clear hK hS hB
          by_cases hin : i < len1 ∧ i < 40
          · obtain ⟨hjl, hj40⟩ := hin
            have hd1 : decide (i < len1) = true := by simpa using hjl
            have hd2 : decide ((i : Int) < 40) = true := by rw [decide_eq_true_iff]; omega
            obtain ⟨bb, oo, rfl, hbb', hcell⟩ := F1.out.at_ (by omega)
            obtain ⟨_, hc1, _, hc3⟩ := hcell i hjl
            rw [← B.out.cell (p := ⟨bb, _, none⟩) hbb', ← Nat.add_assoc] at hc1 hc3
            have hok := F1.out.ok i hjl
            have hsz := hok.2.2.1
            clear hcell hok
            generalize L1 i = x at hc1 hc3 hsz
            by_cases hx : 200 < x.data.size
            · have hdx : decide ((x.data.size : Int) > 200) = true := by rw [decide_eq_true_iff]; omega
              go_wp2_with fail
              go_ret
              exact ⟨rfl, B.out⟩
            · have hdx : decide ((x.data.size : Int) > 200) = false := by rw [decide_eq_false_iff_not]; omega
              go_wp2_with fail
              refine wp_region_still_tail 12 (by kernel_rfl) (by kernel_rfl) ?_
              simp only [List.take_succ_cons, List.take_zero, List.drop_succ_cons, List.drop_zero]
              repeat still_step
              still_call (still_eq (block_any x.data _ hsz))
              refine wpStill_nil ?_
              go_wp2_with (go_at_call 11; refine (write_any b2 l2 c2 t x.i (blockS x.data) _ (K.out.drewN 1)).mono ?_)
              rintro e w5 ⟨rfl, hs5, hf5⟩
              have K5 := Lib.hid hs5
              have hf6 := ((Fr.refl [b2, l2] _).drewN 1).trans hf5 (by simp)
              have S5 := Lib.hid (S.out.fr hf6 (by have := N1.out; have := N3.out; simp; omega) (by have := N2.out; have := N4.out; simp; omega))
              have B5 := Lib.hid (B.out.trans (hf6.below (B := W.heap.size) (by simp; omega) B.out.size))
              clear hs5 hf5 hf6
              go_wp2_with fail
              go_roundg (41 - (i + 1))
              case measure => omega
              case rel => exact ⟨i + 1, _, rfl, by omega, rfl, K5.out, S5.out, B5.out⟩
          · have hex : decide (i < len1) = false ∨ (decide (i < len1) = true ∧ decide ((i : Int) < 40) = false) := by
              by_cases h : i < len1
              · exact .inr ⟨by simpa using h, by rw [decide_eq_false_iff_not]; omega⟩
              · exact .inl (by simpa using h)
            clear hin hfew
            rcases hex with hd1 | ⟨hd1, hd2⟩
            all_goals
              go_wp2_with fail
              refine (bytes_any b l 9 s _ S.out hpos).mono ?_
              rintro e w6 ⟨rfl, hf⟩
              have B6 := Lib.hid (B.out.trans (hf.mono B.out.size))
              clear hf
              go_wp2_with fail
              go_ret
              exact ⟨rfl, B6.out⟩
end Go.Proofs.Ytgknnfajilfpeaa

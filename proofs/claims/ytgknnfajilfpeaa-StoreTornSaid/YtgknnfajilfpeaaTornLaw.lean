/- The walk of StoreTorn. -/
import Derived.Test.YtgknnfajilfpeaaSto4
import Derived.Test.YtgknnfajilfpeaaActs
import Derived.Test.YtgknnfajilfpeaaPure
set_option linter.unusedVariables false
set_option linter.unusedSimpArgs false
namespace Go.Proofs.Ytgknnfajilfpeaa
open Go.RowKit

set_option maxRecDepth 100000 in
set_option maxHeartbeats 1000000 in
theorem storeTorn_walk (a0 : Int) (a1 : Option Addr) (len1 cap1 : Nat) (L1 : Nat → ActD) (a2 : Int) (a3 : ByteArray) (a4 : Int) (W : World) (w0 : (Lit.int .u8 a0).wf = true) (f1 : ActsAt W a1 len1 L1) (w2 : (Lit.int .u8 a2).wf = true)
    (w3 : a3.size ≤ 140737488351232) (w4 : (Lit.int .u8 a4).wf = true) :
    Calls Try.prog 4 #[.int .u8 a0, .slice a1 len1 cap1, .int .u8 a2, .string a3, .int .u8 a4] W fun e w' => e = .returned (.bool true) ∧ Below W.heap.size W w' := by
  obtain ⟨p0, p0'⟩ := wf_u8 w0
  obtain ⟨p2, p2'⟩ := wf_u8 w2
  obtain ⟨p4, p4'⟩ := wf_u8 w4
  have F1 := Lib.hid f1
  have hfew := f1.few
  clear f1 w0 w2 w4
  go_enter Try.func4, Try.ntmps4
  go_wp2_with fail
  refine (awake_any W).mono ?_
  rintro e w1 ⟨rfl, hbel⟩
  have B1 := Lib.hid hbel
  clear hbel
  go_wp2_with fail
  obtain ⟨n, hn⟩ : ∃ n : Nat, (n : Int) = a0 % 20 + 1 := ⟨(a0 % 20 + 1).toNat, by omega⟩
  have hn1 : 1 ≤ n := by omega
  have hn2 : n ≤ 20 := by omega
  rw [← hn]
  clear hn
  refine (new_ok n w1 (by omega) (by omega)).mono ?_
  rintro e w2 ⟨b, l, hb, hl, rfl, hs, hf⟩
  have S2 := Lib.hid hs
  have B2 := Lib.hid (B1.out.trans (hf.below (B := W.heap.size) (by simp) B1.out.size))
  have hbb := Nat.le_trans B1.out.size hb
  have hll := Nat.le_trans B1.out.size hl
  clear hs hf B1 hb hl
  by_cases h200 : 200 < a3.size
  · have hd : decide ((a3.size : Int) > 200) = true := by rw [decide_eq_true_iff]; omega
    go_wp2_with fail
    go_ret
    exact ⟨rfl, B2.out⟩
  · have hd : decide ((a3.size : Int) > 200) = false := by rw [decide_eq_false_iff_not]; omega
    have h200' : a3.size ≤ 200 := by omega
    go_wp2_with fail
    go_loopg [14] 41 (fun k i wr => ∃ (j : Nat) (s : StoS), k = 41 - j ∧ j ≤ 40 ∧ i = .int .i64 j ∧ Plain n s ∧ StoAt wr b l n s ∧ Below W.heap.size W wr)
    case atStart => exact ⟨0, _, rfl, by omega, rfl, Plain.fresh n, S2.out, B2.out⟩
    case round =>
      obtain ⟨j, s, rfl, hj, rfl, hI, hS, hB⟩ := hrel
      have I := Lib.hid hI
      have S := Lib.hid hS
      have B := Lib.hid hB
      clear hI hS hB
      by_cases hin : j < len1 ∧ j < 40
      · obtain ⟨hjl, hj40⟩ := hin
        have hd1 : decide (j < len1) = true := by simpa using hjl
        have hd2 : decide ((j : Int) < 40) = true := by rw [decide_eq_true_iff]; omega
        obtain ⟨bb, oo, rfl, hbb', hcell⟩ := F1.out.at_ (by omega)
        obtain ⟨_, hc1, _, hc3⟩ := hcell j hjl
        rw [← B.out.cell (p := ⟨bb, _, none⟩) hbb', ← Nat.add_assoc] at hc1 hc3
        have hok := F1.out.ok j hjl
        have hsz := hok.2.2.1
        clear hcell hok
        generalize L1 j = x at hc1 hc3 hsz
        by_cases hx : 200 < x.data.size
        · have hdx : decide ((x.data.size : Int) > 200) = true := by rw [decide_eq_true_iff]; omega
          go_wp2_with fail
          go_ret
          exact ⟨rfl, B.out⟩
        · have hdx : decide ((x.data.size : Int) > 200) = false := by rw [decide_eq_false_iff_not]; omega
          go_wp2_with fail
          refine wp_region_still_tail 12 (by kernel_rfl) (by kernel_rfl) ?_
          simp only [List.take_succ_cons, List.take_zero, List.drop_succ_cons, List.drop_zero]
          repeat still_step
          still_call (still_eq (block_any x.data _ hsz))
          refine wpStill_nil ?_
          go_wp2_with (go_at_call 11; refine (write_any b l n s x.i (blockS x.data) _ (S.out.drewN 1)).mono ?_)
          rintro e w5 ⟨rfl, hs5, hf5⟩
          have S5 := Lib.hid hs5
          have I5 := Lib.hid (I.out.write x.i (blockS x.data))
          have B5 := Lib.hid (B.out.trans ((((Fr.refl [b, l] wr).drewN 1).trans hf5 (by simp)).below (B := W.heap.size) (by simp; omega) B.out.size))
          clear hs5 hf5
          go_wp2_with fail
          go_roundg (41 - (j + 1))
          case measure => omega
          case rel => exact ⟨j + 1, _, rfl, by omega, rfl, I5.out, S5.out, B5.out⟩
      · have hex : decide (j < len1) = false ∨ (decide (j < len1) = true ∧ decide ((j : Int) < 40) = false) := by
          by_cases h : j < len1
          · exact .inr ⟨by simpa using h, by rw [decide_eq_false_iff_not]; omega⟩
          · exact .inl (by simpa using h)
        have T := Lib.hid (torn_tail n s a3 I.out S.out.len)
        clear hin hfew
        rcases hex with hd1 | ⟨hd1, hd2⟩
        all_goals
          go_wp2_with fail
          refine (bytes_any b l n s wr S.out (by rw [I.out.n]; exact hn1)).mono ?_
          rintro e w5 ⟨rfl, hf⟩
          have S5 := Lib.hid (S.out.fr (Fr.of_below hf []) (by simp) (by simp))
          have B5 := Lib.hid (B.out.trans (hf.mono B.out.size))
          clear hf
          go_wp2_with fail
          obtain ⟨k, hk⟩ : ∃ k : Nat, (k : Int) = a2 % n := ⟨(a2 % n).toNat, by have := Int.emod_nonneg a2 (show (n : Int) ≠ 0 by omega); omega⟩
          obtain ⟨p, hp⟩ : ∃ p : Nat, (p : Int) = a4 % 33 := ⟨(a4 % 33).toNat, by omega⟩
          have hkn : k < n := by have := Int.emod_lt_of_pos a2 (show (0 : Int) < n by omega); omega
          have hp33 : p < 33 := by omega
          rw [← hk, ← hp]
          have T5 := T.out k p hkn hp33
          clear hk hp
          refine (fuse_any b l n s 0 p w5 S5.out (by omega)).mono ?_
          rintro e w6 ⟨rfl, hs, hf⟩
          have S6 := Lib.hid hs
          have B6 := Lib.hid (B5.out.trans (hf.below (B := W.heap.size) (by simp; omega) B5.out.size))
          clear hs hf
          go_wp2_with fail
          refine (block_any a3 w6 (by omega)).mono ?_
          rintro e w6' ⟨rfl, rfl⟩
          go_wp2_with fail
          refine (write_is S6.out T5.e1 rfl).mono ?_
          rintro e w7 ⟨rfl, hs, hf⟩
          have S7 := Lib.hid hs
          have B7 := Lib.hid (B6.out.trans (hf.below (B := W.heap.size) (by simp; omega) B6.out.size))
          clear hs hf
          go_wp2_with fail
          refine (down_is S7.out T5.e2).mono ?_
          rintro e w7' ⟨rfl, rfl⟩
          go_wp2_with fail
          refine (block_any ⟨#[]⟩ w7 (by decide)).mono ?_
          rintro e w7' ⟨rfl, rfl⟩
          go_wp2_with fail
          refine (write_is (n := 16) (s' := ((s.setFuse 0 p).write k (blockS a3)).2) S7.out (by rw [T5.e3]) (by rw [T5.e3])).mono ?_
          rintro e w8 ⟨rfl, hs, hf⟩
          have S8 := Lib.hid hs
          have B8 := Lib.hid (B7.out.trans (hf.below (B := W.heap.size) (by simp; omega) B7.out.size))
          clear hs hf
          go_wp2_with fail
          refine (up_any b l n _ w8 S8.out).mono ?_
          rintro e w9 ⟨rfl, hs, hf⟩
          have S9 := Lib.hid hs
          have B9 := Lib.hid (B8.out.trans (hf.below (B := W.heap.size) (by simp; omega) B8.out.size))
          clear hs hf
          go_wp2_with fail
          refine (bytes_any b l n _ w9 S9.out (by rw [T5.e4]; exact hn1)).mono ?_
          rintro e w10 ⟨rfl, hf⟩
          have S10 := Lib.hid (S9.out.fr (Fr.of_below hf []) (by simp) (by simp))
          have B10 := Lib.hid (B9.out.trans (hf.mono B9.out.size))
          clear hf
          rw [T5.e5]
          have hT6 := T5.e6
          have hbs : (⟨s.bs.toArray⟩ : ByteArray).size = 32 * n := by rw [bsize, S.out.len, I.out.n]
          have hz := blockS_size a3
          have hC := block_any a3 (w10.drewN 1) (by omega)
          generalize ((s.setFuse 0 p).write k (blockS a3)).2.up = s9 at S10 hT6
          generalize (⟨s.bs.toArray⟩ : ByteArray) = was at hbs ⊢
          have hb1 : (k : Int) * 32 ≤ was.size := by omega
          have hb2 : (k : Int) * 32 + p ≤ was.size := by omega
          have hb3 : was.size ≤ 640 := by omega
          have hg1 : (0 : Int) ≤ (k : Int) * 32 := by omega
          have hg2 : (0 : Int) ≤ (k : Int) * 32 + p := by omega
          have hg3 : (p : Int) ≤ 32 := by omega
          have hq1 : IntKind.i64.wrap ((k : Int) * 32) = (k : Int) * 32 := IntWalk.i64_in _ (by omega)
          have hq2 : IntKind.i64.wrap ((k : Int) * 32 + p) = (k : Int) * 32 + p := IntWalk.i64_in _ (by omega)
          have hq3 : ((k : Int) * 32).toNat = k * 32 := by omega
          have hq4 : ((k : Int) * 32 + p).toNat = k * 32 + p := by omega
          have hcat1 : ¬ 9223372036854775807 < min (k * 32) was.size + min p 32 := by omega
          have hcat2 : ¬ 9223372036854775807 < min (k * 32) was.size + min p 32 + (was.size - (k * 32 + p)) := by omega
          have HBS := Lib.hid hbs
          clear hbs T5 S5 S6 S7 S8 S9
          go_wp2_with fail
          refine wp_region_still_tail 23 (by kernel_rfl) (by kernel_rfl) ?_
          simp only [List.take_succ_cons, List.take_zero, List.drop_succ_cons, List.drop_zero]
          repeat still_step
          still_call (still_eq (block_any a3 _ (by omega)))
          repeat still_step
          still_call (still_eq (block_any a3 _ (by omega)))
          repeat still_step
          refine wpStill_nil ?_
          go_wp2_with (go_at_call 11; refine (write_is (S10.out.drewN 1) hT6 rfl).mono ?_)
          rintro e w11 ⟨rfl, hs, hf⟩
          have B11 := Lib.hid (B10.out.trans ((((Fr.refl [b, l] w10).drewN 1).trans hf (by simp)).below (B := W.heap.size) (by simp; omega) B10.out.size))
          clear hs hf
          go_wp2_with fail
          go_ret
          exact ⟨rfl, B11.out⟩
end Go.Proofs.Ytgknnfajilfpeaa

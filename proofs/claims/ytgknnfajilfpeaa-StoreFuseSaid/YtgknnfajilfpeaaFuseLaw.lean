/- The walk of StoreFuse. -/
import Derived.Test.YtgknnfajilfpeaaSto4
import Derived.Test.YtgknnfajilfpeaaActs
set_option linter.unusedVariables false
set_option linter.unusedSimpArgs false
namespace Go.Proofs.Ytgknnfajilfpeaa
open Go.RowKit

structure FuseInv (n whole : Int) (s : StoS) : Prop where
  two : s.n = 2
  down : s.down = false
  fuse : s.fuse = n - whole
  writes : s.writes = whole
  lo : 0 ≤ whole
  hi : whole ≤ n
  few : n ≤ 59
theorem blockS_sz (s : ByteArray) : (blockS s).size = 32 := blockS_size s
def sX : ByteArray := ⟨#[120]⟩
def sNone : ByteArray := ⟨#[]⟩
theorem FuseInv.bad1 {n whole : Int} {s : StoS} (h : FuseInv n whole s) (d : ByteArray) : s.write 2 d = (3, s) := by
  have : s.mayE 2 = 3 := by simp [StoS.mayE, h.down, h.two]
  simp [StoS.write, this]
theorem FuseInv.bad2 {n whole : Int} {s : StoS} (h : FuseInv n whole s) : s.write 0 sShort = (1, s) := by
  have : s.mayE 0 = 0 := by simp [StoS.mayE, h.down, h.two]
  have hs : sShort.size ≠ 32 := by decide
  simp [StoS.write, this, hs]
theorem FuseInv.torn {n whole : Int} {s : StoS} (h : FuseInv n whole s) (i : Int) (h0 : 0 ≤ i) (h1 : i < 2) (he : whole = n) :
    (s.write i (blockS sX)).1 = 16 ∧ (s.write i (blockS sX)).2.down = true ∧ (s.write i (blockS sX)).2.writes = n := by
  have hm : s.mayE i = 0 := by simp [StoS.mayE, h.down, h.two]; omega
  have hf : s.fuse = 0 := by rw [h.fuse]; omega
  have hz := blockS_sz sX
  simp [StoS.write, hm, hf, hz]
  rw [h.writes, he]
theorem FuseInv.whole {n whole : Int} {s : StoS} (h : FuseInv n whole s) (i : Int) (h0 : 0 ≤ i) (h1 : i < 2) (he : whole < n) :
    (s.write i (blockS sX)).1 = 0 ∧ FuseInv n (whole + 1) (s.write i (blockS sX)).2 := by
  have hm : s.mayE i = 0 := by simp [StoS.mayE, h.down, h.two]; omega
  have hf : s.fuse ≠ 0 := by rw [h.fuse]; omega
  have hf2 : ¬ s.fuse < 0 := by rw [h.fuse]; omega
  have hz := blockS_sz sX
  have hw : s.write i (blockS sX) = (0, { s with bs := s.lay i (blockS sX).data.toList, fuse := s.fuse - 1, writes := wrap64 (s.writes + 1) }) := by
    simp [StoS.write, hm, hf, hz, hf2]
  rw [hw]
  have := h.few
  have := h.lo
  exact ⟨rfl, ⟨h.two, h.down, by show s.fuse - 1 = _; rw [h.fuse]; omega, by show wrap64 _ = _; rw [h.writes]; unfold wrap64; omega, by have := h.lo; omega, by omega, h.few⟩⟩
theorem FuseInv.start (n : Int) (h0 : 0 ≤ n) (h1 : n ≤ 59) : FuseInv n 0 ((StoS.fresh 2).setFuse n 5) :=
  ⟨rfl, rfl, by simp [StoS.setFuse]; omega, rfl, by omega, h0, h1⟩

set_option maxRecDepth 100000 in
set_option maxHeartbeats 1000000 in
theorem storeFuse_walk (a0 : Int) (a1 : Option Addr) (len1 cap1 : Nat) (L1 : Nat → Bool) (W : World) (w0 : (Lit.int .u8 a0).wf = true) (f1 : BoolsAt W a1 len1 L1) :
    Calls Try.prog 5 #[.int .u8 a0, .slice a1 len1 cap1] W fun e w' => e = .returned (.bool true) ∧ Below W.heap.size W w' := by
  have hb := wf_u8 w0
  obtain ⟨hb0, hb1⟩ := hb
  have F1 := Lib.hid f1
  have hfew := f1.few
  clear f1 w0
  go_enter Try.func5, Try.ntmps5
  go_wp2_with fail
  refine (awake_any W).mono ?_
  rintro e w1 ⟨rfl, hbel⟩
  have B1 := Lib.hid hbel
  clear hbel
  go_wp2_with fail
  refine (new_ok 2 w1 (by omega) (by omega)).mono ?_
  rintro e w2 ⟨b, l, hb, hl, rfl, hs, hf⟩
  have S2 := Lib.hid hs
  have B2 := Lib.hid (B1.out.trans (hf.below (B := W.heap.size) (by simp) B1.out.size))
  have hbb := Nat.le_trans B1.out.size hb
  have hll := Nat.le_trans B1.out.size hl
  clear hs hf B1 hb hl
  go_wp2_with fail
  refine (fuse_any b l 2 _ (a0 % 60) 5 w2 S2.out (by omega)).mono ?_
  rintro e w3 ⟨rfl, hs, hf⟩
  have S3 := Lib.hid hs
  have B3 := Lib.hid (B2.out.trans (hf.below (B := W.heap.size) (by simpa using hbb) B2.out.size))
  have I3 := Lib.hid (FuseInv.start (a0 % 60) (by omega) (by omega))
  have hn0 : 0 ≤ a0 % 60 := by omega
  have hn1 : a0 % 60 ≤ 59 := by omega
  clear hs hf S2 B2
  generalize a0 % 60 = n at *
  go_wp2_with fail
  go_loopg [8, 9] 70 (fun k wh i wr => ∃ (j : Nat) (whole : Int) (s : StoS), k = 70 - j ∧ j ≤ 70 ∧ wh = .int .i64 whole ∧ i = .int .i64 j ∧ FuseInv n whole s ∧ StoAt wr b l 2 s ∧ Below W.heap.size W wr)
  case atStart => exact ⟨0, 0, _, rfl, by omega, rfl, rfl, I3.out, S3.out, B3.out⟩
  case round =>
    obtain ⟨j, whole, s, rfl, hj, rfl, rfl, hI, hS, hB⟩ := hrel
    have I := Lib.hid hI
    have S := Lib.hid hS
    have B := Lib.hid hB
    have hlo := hI.lo
    have hhi := hI.hi
    clear hI hS hB
    by_cases hj70 : j < 70
    · have hd : decide ((j : Int) < 70) = true := by rw [decide_eq_true_iff]; omega
      by_cases hbad : j < len1 ∧ L1 j = true
      · obtain ⟨hjl, hLj⟩ := hbad
        have hdl : decide (j < len1) = true := by simpa using hjl
        obtain ⟨bb, oo, rfl, hbb', hcell⟩ := F1.out.at_ (by omega)
        have hc := hcell j hjl
        rw [← B.out.cell (p := ⟨bb, oo + j, none⟩) hbb', hLj] at hc
        clear hcell hLj
        have e1 := I.out.bad1 (blockS sNone)
        have e2 := I.out.bad2
        have C1 := write_is (n := 3) (s' := s) S.out (by rw [e1]) (by rw [e1])
        have E2 := Lib.hid e2
        clear e1 e2
        go_wp2_with (go_at_call 10; refine (block_any sNone wr (by decide)).mono ?_; rintro e w' ⟨rfl, rfl⟩; go_wp2_with fail; refine C1.mono ?_)
        rintro e w5 ⟨rfl, hs5, hf5⟩
        have S5 := Lib.hid hs5
        have C2 := write_is (d := sShort) (n := 1) (s' := s) S5.out (by rw [E2.out]) (by rw [E2.out])
        have B5 := Lib.hid (B.out.trans (hf5.below (B := W.heap.size) (by simp; omega) B.out.size))
        clear hs5 hf5
        go_wp2_with fail
        refine C2.mono ?_
        rintro e w6 ⟨rfl, hs6, hf6⟩
        have S6 := Lib.hid hs6
        have B6 := Lib.hid (B5.out.trans (hf6.below (B := W.heap.size) (by simp; omega) B5.out.size))
        clear hs6 hf6 C1 C2
        go_wp2_with fail
        go_roundg (70 - (j + 1))
        case measure => omega
        case rel => exact ⟨j + 1, whole, s, rfl, by omega, rfl, rfl, I.out, S6.out, B6.out⟩
      · have hm0 : (0 : Int) ≤ (j : Int) % 2 := by omega
        have hm1 : (j : Int) % 2 < 2 := by omega
        by_cases hfull : whole = n
        · have e := I.out.torn ((j : Int) % 2) hm0 hm1 hfull
          subst hfull
          have C1 := write_is S.out e.1 rfl
          have ed := Lib.hid e.2.1
          have ew := Lib.hid e.2.2
          clear e
          generalize (s.write ((j : Int) % 2) (blockS sX)).2 = s2 at C1 ed ew
          by_cases hjl : j < len1
          · have hdl : decide (j < len1) = true := by simpa using hjl
            have hLj : L1 j = false := by
              cases h : L1 j with
              | true => exact absurd ⟨hjl, h⟩ hbad
              | false => rfl
            obtain ⟨bb, oo, rfl, hbb', hcell⟩ := F1.out.at_ (by omega)
            have hc := hcell j hjl
            rw [← B.out.cell (p := ⟨bb, oo + j, none⟩) hbb', hLj] at hc
            clear hcell hLj hbad
            go_wp2_with (go_at_call 10; refine (block_any sX wr (by decide)).mono ?_; rintro e w' ⟨rfl, rfl⟩; go_wp2_with fail; refine C1.mono ?_)
            rintro e w5 ⟨rfl, hs5, hf5⟩
            have D5 := down_is hs5 ed.out
            have W5 := writes_is hs5 ew.out
            have B5 := Lib.hid (B.out.trans (hf5.below (B := W.heap.size) (by simp; omega) B.out.size))
            clear hs5 hf5 C1
            go_wp2_with (first | (go_at_call 19; refine D5.mono ?_; rintro e w' ⟨rfl, rfl⟩) | (go_at_call 20; refine W5.mono ?_; rintro e w' ⟨rfl, rfl⟩))
            go_ret
            exact ⟨rfl, B5.out⟩
          · have hdl : decide (j < len1) = false := by simpa using hjl
            clear hbad
            go_wp2_with (go_at_call 10; refine (block_any sX wr (by decide)).mono ?_; rintro e w' ⟨rfl, rfl⟩; go_wp2_with fail; refine C1.mono ?_)
            rintro e w5 ⟨rfl, hs5, hf5⟩
            have D5 := down_is hs5 ed.out
            have W5 := writes_is hs5 ew.out
            have B5 := Lib.hid (B.out.trans (hf5.below (B := W.heap.size) (by simp; omega) B.out.size))
            clear hs5 hf5 C1
            go_wp2_with (first | (go_at_call 19; refine D5.mono ?_; rintro e w' ⟨rfl, rfl⟩) | (go_at_call 20; refine W5.mono ?_; rintro e w' ⟨rfl, rfl⟩))
            go_ret
            exact ⟨rfl, B5.out⟩
        · have e := I.out.whole ((j : Int) % 2) hm0 hm1 (by omega)
          have C1 := write_is S.out e.1 rfl
          have I2 := Lib.hid e.2
          clear e
          generalize (s.write ((j : Int) % 2) (blockS sX)).2 = s2 at C1 I2
          by_cases hjl : j < len1
          · have hdl : decide (j < len1) = true := by simpa using hjl
            have hLj : L1 j = false := by
              cases h : L1 j with
              | true => exact absurd ⟨hjl, h⟩ hbad
              | false => rfl
            obtain ⟨bb, oo, rfl, hbb', hcell⟩ := F1.out.at_ (by omega)
            have hc := hcell j hjl
            rw [← B.out.cell (p := ⟨bb, oo + j, none⟩) hbb', hLj] at hc
            clear hcell hLj hbad
            go_wp2_with (go_at_call 10; refine (block_any sX wr (by decide)).mono ?_; rintro e w' ⟨rfl, rfl⟩; go_wp2_with fail; refine C1.mono ?_)
            rintro e w5 ⟨rfl, hs5, hf5⟩
            have S5 := Lib.hid hs5
            have B5 := Lib.hid (B.out.trans (hf5.below (B := W.heap.size) (by simp; omega) B.out.size))
            clear hs5 hf5 C1
            go_wp2_with fail
            go_roundg (70 - (j + 1))
            case measure => omega
            case rel => exact ⟨j + 1, whole + 1, s2, rfl, by omega, rfl, rfl, I2.out, S5.out, B5.out⟩
          · have hdl : decide (j < len1) = false := by simpa using hjl
            clear hbad
            go_wp2_with (go_at_call 10; refine (block_any sX wr (by decide)).mono ?_; rintro e w' ⟨rfl, rfl⟩; go_wp2_with fail; refine C1.mono ?_)
            rintro e w5 ⟨rfl, hs5, hf5⟩
            have S5 := Lib.hid hs5
            have B5 := Lib.hid (B.out.trans (hf5.below (B := W.heap.size) (by simp; omega) B.out.size))
            clear hs5 hf5 C1
            go_wp2_with fail
            go_roundg (70 - (j + 1))
            case measure => omega
            case rel => exact ⟨j + 1, whole + 1, s2, rfl, by omega, rfl, rfl, I2.out, S5.out, B5.out⟩
    · have hd : decide ((j : Int) < 70) = false := by rw [decide_eq_false_iff_not]; omega
      go_wp2_with fail
      go_ret
      exact ⟨rfl, B.out⟩
end Go.Proofs.Ytgknnfajilfpeaa

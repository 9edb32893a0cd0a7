/- As many ticks may come as the slack says, and no more: the law. -/
import Derived.Test.YtclkahggfdnpgaaMk16
set_option linter.unusedVariables false
set_option linter.unusedSimpArgs false
namespace Go.Proofs.Ytclkahggfdnpgaa
open Go.RowKit
theorem large_flat {w : World} {f : FlatD} (h : FlatIn w f) (hl : largeB f = false) : FlatAt w f := by
  unfold largeB at hl
  simp at hl
  exact h.at (by omega) (by omega)
set_option maxRecDepth 100000 in
set_option maxHeartbeats 4000000 in
theorem markTicks_walk (f : FlatD) (a1 : Option Addr) (len1 cap1 : Nat) (L : List Nat) (W : World) (hf : FlatIn W f) (hL : StepsAt W a1 len1 L) :
    Calls Try.prog 7 #[f.val, .slice a1 len1 cap1] W fun e w' => e = .returned (.bool true) ∧ Below W.heap.size W w' := by
  have hfe := Lib.hid hf.evs.1
  have hr := (Fr.refl [] W).alloc (.cells #[.slice f.ea f.en f.ec, .slice f.ta f.tn f.tc] 25)
  have HR := Lib.hid hr
  have rb := Row.new W [.slice f.ea f.en f.ec, .slice f.ta f.tn f.tc] 25
  have RB := Lib.hid rb
  have HF := Lib.hid hf
  have HL := Lib.hid hL
  clear hf hL hr rb
  unfold FlatD.val
  go_enter Try.func7, Try.ntmps7
  go_wp2_with fail
  refine (awake_any _).mono ?_
  rintro e w1 ⟨rfl, hF1⟩
  have F1 := Lib.hid (HR.out.trans hF1 (by simp))
  have x0 : w1.cell? ⟨W.heap.size, 0, none⟩ = some (.slice f.ea f.en f.ec) := (RB.out.fr hF1 (by simp)).cell 0
  have x1 : w1.cell? ⟨W.heap.size, 1, none⟩ = some (.slice f.ta f.tn f.tc) := (RB.out.fr hF1 (by simp)).cell 1
  clear hF1
  have C2 := large_any f w1
  unfold FlatD.val at C2
  go_wp2_with fail
  refine C2.mono ?_
  rintro e w2 ⟨rfl, hF2⟩
  have F2 := Lib.hid (F1.out.trans hF2 (by simp))
  have y0 := cell_fr x0 hF2
  have y1 := cell_fr x1 hF2
  clear hF2 C2 x0 x1
  by_cases hl : largeB f = true
  · rw [hl]
    go_wp2_with fail
    go_ret
    exact ⟨rfl, F2.out.nil_below⟩
  have hl : largeB f = false := by simpa using hl
  have FA := Lib.hid (large_flat HF.out hl)
  have hen := FA.out.few
  have C3 := run_any f a1 len1 cap1 L w2 (FA.out.fr F2.out) (HL.out.fr F2.out)
  have hfit := Lib.hid (runM_fits f hfe.out (L.take 60))
  generalize runM f (L.take 60) = M at C3 hfit
  rw [hl]
  clear hl
  unfold FlatD.val at C3
  go_wp2_with fail
  refine C3.mono ?_
  rintro e w3 ⟨am, cm, rfl, hM3, hF3⟩
  have F3 := Lib.hid (F2.out.trans hF3 (by simp))
  have M3 := Lib.hid hM3
  have x0 := cell_fr y0 hF3
  have x1 := cell_fr y1 hF3
  clear hF3 C3 y0 y1 hM3
  have C4 := slack_any f am f.en cm M w3 M3.out hen
  unfold FlatD.val at C4
  go_wp2_with fail
  refine C4.mono ?_
  rintro e w4 ⟨rfl, hF4⟩
  have F4 := Lib.hid (F3.out.trans hF4 (by simp))
  have M4 := Lib.hid (M3.out.fr hF4)
  have y0 := cell_fr x0 hF4
  have y1 := cell_fr x1 hF4
  clear hF4 C4 x0 x1 M3
  have hs := slack_nn hfit.out
  have d0 : decide (slackI f.en M < 0) = false := decide_eq_false (by omega)
  by_cases hbig : slackI f.en M > 100
  · have d1 : decide (slackI f.en M > 100) = true := decide_eq_true hbig
    have d2 : decide (slackI f.en M > 0) = true := decide_eq_true (by omega)
    have C5 := tick_any f am f.en cm M w4 M4.out hen
    rw [tick_go hfit.out (by omega)] at C5
    have C6 := C5.mono fun e w' h => next_ok0 h
    generalize slackI f.en M = n at d0 d1 d2
    clear C5 hs hbig
    unfold FlatD.val at C6
    go_wp2_with fail
    refine C6.mono ?_
    rintro e w5 ⟨a5, c5, rfl, _, hF5⟩
    have F5 := Lib.hid (F4.out.trans hF5 (by simp))
    clear hF5 C6
    go_wp2_with fail
    go_ret
    exact ⟨rfl, F5.out.nil_below⟩
  have d1 : decide (slackI f.en M > 100) = false := decide_eq_false hbig
  obtain ⟨n, hn⟩ := Int.eq_ofNat_of_zero_le hs.1
  have HN := Lib.hid hn
  rw [hn] at d0 d1 hbig ⊢
  have hn100 : n ≤ 100 := by omega
  clear hs hbig hn
  go_wp2_with fail
  go_loopg [5, 9] n (fun k m i wr => ∃ (j : Nat) (b : Option Addr) (d : Nat) (Mj : List MarkD), k = n - j ∧ j ≤ n ∧ m = .slice b f.en d ∧ i = .int .i64 j ∧ MarksAt wr b f.en Mj ∧ fitsB f.en Mj = true ∧ slackI f.en Mj = ((n - j : Nat) : Int) ∧ Fr [] w4 wr)
  case atStart => exact ⟨0, am, cm, M, rfl, by omega, rfl, rfl, M4.out, hfit.out, HN.out, Fr.refl _ _⟩
  case round =>
    obtain ⟨j, b, d, Mj, rfl, hj, rfl, rfl, hM, hfj, hsj, hF⟩ := hrel
    have M5 := Lib.hid hM
    have F5 := Lib.hid (F4.out.trans hF (by simp))
    have FS := Lib.hid hF
    have HFJ := Lib.hid hfj
    have HSJ := Lib.hid hsj
    have x0 := cell_fr y0 hF
    have x1 := cell_fr y1 hF
    clear hM hF hfj hsj
    by_cases hjn : j < n
    · have hdn : decide (j < n) = true := decide_eq_true hjn
      have C5 := tick_any f b f.en d Mj wr M5.out hen
      rw [tick_go HFJ.out (by rw [HSJ.out]; omega)] at C5
      have C6 := C5.mono fun e w' h => next_ok0 h
      rw [List.length_map, fits_len HFJ.out] at C6
      clear C5
      unfold FlatD.val at C6
      go_wp2_with fail
      refine C6.mono ?_
      rintro e w6 ⟨a6, c6, rfl, hM6, hF6⟩
      have M6 := Lib.hid hM6
      have F6 := Lib.hid (FS.out.trans hF6 (by simp))
      have z0 := cell_fr x0 hF6
      have z1 := cell_fr x1 hF6
      clear hM6 hF6 C6 x0 x1
      obtain ⟨k, hk⟩ : ∃ k : Nat, n = j + 1 + k := ⟨n - (j + 1), by omega⟩
      have HK := Lib.hid hk
      have hst := slack_tick HFJ.out (by rw [HSJ.out]; omega)
      rw [HSJ.out, show decI ((n - j : Nat) : Int) = (k : Int) by unfold decI; rw [if_pos (by omega)]; omega] at hst
      have C7 := slack_any f a6 f.en c6 (Mj.map tickM) w6 M6.out hen
      rw [hst] at C7
      have HST := Lib.hid hst
      have hkk : ((k : Int) != (n : Int) - j - 1) = false := by rw [show (n : Int) - j - 1 = k by omega]; simp
      clear hst hk
      unfold FlatD.val at C7
      go_wp2_with fail
      refine C7.mono ?_
      rintro e w7 ⟨rfl, hF7⟩
      have M7 := Lib.hid (M6.out.fr hF7)
      have F7 := Lib.hid (F6.out.trans hF7 (by simp))
      clear hF7 C7 z0 z1
      go_wp2_with fail
      go_roundg (n - (j + 1))
      case measure => omega
      case rel => exact ⟨j + 1, a6, c6, Mj.map tickM, rfl, by omega, rfl, rfl, M7.out, tick_fits _ _ HFJ.out, by rw [HST.out]; have := HK.out; omega, F7.out⟩
    · have hdn : decide (j < n) = false := decide_eq_false hjn
      obtain rfl : j = n := by omega
      have C5 := tick_any f b f.en d Mj wr M5.out hen
      have hz : slackI f.en Mj = 0 := by rw [HSJ.out]; omega
      rw [tick_due hz] at C5
      have C6 := C5.mono fun e w' h => next_bad0 (by decide) h
      have hacc := Lib.hid (slack_acc hz)
      clear C5 hz
      unfold FlatD.val at C6
      go_wp2_with fail
      refine C6.mono ?_
      rintro e w6 ⟨a6, c6, rfl, _, hF6⟩
      have F6 := Lib.hid (F5.out.trans hF6 (by simp))
      have M6 := Lib.hid (M5.out.fr hF6)
      have z0 := cell_fr x0 hF6
      have z1 := cell_fr x1 hF6
      clear hF6 C6 x0 x1
      have C7 := acc_any f b f.en d Mj w6 M6.out hen
      rw [hacc.out] at C7
      unfold FlatD.val at C7
      go_wp2_with fail
      refine C7.mono ?_
      rintro e w7 ⟨rfl, hF7⟩
      have F7 := Lib.hid (F6.out.trans hF7 (by simp))
      clear hF7 C7
      go_wp2_with fail
      go_ret
      exact ⟨rfl, F7.out.nil_below⟩
end Go.Proofs.Ytclkahggfdnpgaa

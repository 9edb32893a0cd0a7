/- The marking behind some steps: the walk of run. -/
import Derived.Test.YtclkahggfdnpgaaMk17
import Derived.Test.YtclkahggfdnpgaaMk18
import Derived.Deep.RegionHeldLaw
set_option linter.unusedVariables false
set_option linter.unusedSimpArgs false
namespace Go.Proofs.Ytclkahggfdnpgaa
open Go.RowKit
theorem FlatAt.drewN {w : World} {f : FlatD} (h : FlatAt w f) (n : Nat) : FlatAt (w.drewN n) f := h.fr ((Fr.refl [] w).drewN n)
theorem MarksAt.drewN {w : World} {a : Option Addr} {k : Nat} {M : List MarkD} (h : MarksAt w a k M) (n : Nat) : MarksAt (w.drewN n) a k M := h.fr ((Fr.refl [] w).drewN n)
theorem StepsAt.cell {w : World} {b o n : Nat} {L : List Nat} (h : StepsAt w (some ⟨b, o, none⟩) n L) (j : Nat) (hj : j < n) : w.cell? ⟨b, o + j, none⟩ = some (.int .u8 ((L.getD j default : Nat) : Int)) := by
  obtain ⟨b', o', e, _, hc⟩ := h.rows.at_ (by omega)
  obtain ⟨rfl, rfl⟩ : b = b' ∧ o = o' := by simpa using e
  have := hc j hj 0 _ rfl
  rwa [Nat.mul_one, Nat.add_zero] at this
theorem next_ok0 {N : List MarkD} {w : World} {e : Ending} {w' : World} (h : NextP N 0 w e w') : ∃ a c, e = .returned (.tuple #[.slice a N.length c, .int .i64 0]) ∧ MarksAt w' a N.length N ∧ Fr [] w w' := by
  obtain ⟨a, c, h1, h2, h3⟩ := h
  exact ⟨a, c, by simpa using h1, by simpa using h2, h3⟩
theorem next_bad0 {N : List MarkD} {E : Int} (hE : E ≠ 0) {w : World} {e : Ending} {w' : World} (h : NextP N E w e w') : ∃ a c, e = .returned (.tuple #[.slice a 0 c, .int .i64 E]) ∧ MarksAt w' a 0 [] ∧ Fr [] w w' := by
  obtain ⟨a, c, h1, h2, h3⟩ := h
  rw [if_neg hE] at h1
  rw [if_neg hE, if_neg hE] at h2
  exact ⟨a, c, h1, h2, h3⟩
theorem runStep_do {f : FlatD} {M : List MarkD} {i : Int} (h : doE f M i = 0) : runStep f M i = doM f M i.toNat := by unfold runStep; rw [if_pos h]
theorem runStep_tick {f : FlatD} {M : List MarkD} {i : Int} (h : doE f M i ≠ 0) (h2 : tickE f M = 0) : runStep f M i = M.map tickM := by unfold runStep; rw [if_neg h, if_pos h2]
theorem runStep_none {f : FlatD} {M : List MarkD} {i : Int} (h : doE f M i ≠ 0) (h2 : tickE f M ≠ 0) : runStep f M i = M := by unfold runStep; rw [if_neg h, if_neg h2]
set_option maxRecDepth 100000 in
set_option maxHeartbeats 1000000 in
theorem run_any (f : FlatD) (a : Option Addr) (n c : Nat) (L : List Nat) (w : World) (hf : FlatAt w f) (h : StepsAt w a n L) :
    Calls Try.prog 33 #[f.val, .slice a n c] w (Marked (runM f (L.take 60)) f.en w) := by
  have hfe := Lib.hid hf.evs.1
  have hll := Lib.hid h.len
  have hfew := h.few
  have hen := hf.few
  have hr := (Fr.refl [] w).alloc (.cells #[.slice f.ea f.en f.ec, .slice f.ta f.tn f.tc] 25)
  have HR := Lib.hid hr
  have rb := Row.new w [.slice f.ea f.en f.ec, .slice f.ta f.tn f.tc] 25
  have RB := Lib.hid rb
  have HF := Lib.hid hf
  have HL := Lib.hid h
  have C0 := start_any f _ (hf.fr hr)
  clear hf h hr rb
  unfold FlatD.val at C0 ⊢
  go_enter Try.func33, Try.ntmps33
  go_wp2_with fail
  refine C0.mono ?_
  rintro e w1 ⟨am, cm, rfl, hM, hF1⟩
  have M1 := Lib.hid hM
  have F1 := Lib.hid hF1
  clear hM hF1 C0
  go_wp2_with fail
  go_loopg [5, 6] n (fun k m i wr => ∃ (j : Nat) (b : Option Addr) (d : Nat), k = n - j ∧ j ≤ n ∧ j ≤ 60 ∧ m = .slice b f.en d ∧ i = .int .i64 j ∧ MarksAt wr b f.en (runM f (L.take j)) ∧ Fr [] (w.alloc (.cells #[.slice f.ea f.en f.ec, .slice f.ta f.tn f.tc] 25)) wr)
  case atStart => exact ⟨0, am, cm, rfl, by omega, by omega, rfl, rfl, M1.out, F1.out⟩
  case round =>
    obtain ⟨j, b, d, rfl, hj, hj6, rfl, rfl, hM, hF⟩ := hrel
    have M2 := Lib.hid hM
    have F2 := Lib.hid hF
    have FW := Lib.hid (HR.out.trans hF (by simp))
    have x0 : wr.cell? ⟨w.heap.size, 0, none⟩ = some (.slice f.ea f.en f.ec) := (RB.out.fr hF (by simp)).cell 0
    have x1 : wr.cell? ⟨w.heap.size, 1, none⟩ = some (.slice f.ta f.tn f.tc) := (RB.out.fr hF (by simp)).cell 1
    clear hM hF
    by_cases hjn : j < n ∧ j < 60
    · have hd : decide (j < n) = true := by rw [decide_eq_true_iff]; omega
      have hd6 : decide (j < 60) = true := by rw [decide_eq_true_iff]; omega
      obtain ⟨bl, ol, rfl, _, _⟩ := HL.out.rows.at_ (by omega)
      have x2 : wr.cell? ⟨bl, ol + j, none⟩ = some (.int .u8 ((L.getD j default : Nat) : Int)) := (HL.out.fr FW.out).cell j hjn.1
      have hsm := HL.out.small j
      have hsuc := Lib.hid (runM_succ f L j (by rw [hll.out]; exact hjn.1))
      have hlen := Lib.hid (fits_len (runM_fits f hfe.out (L.take j)))
      have hlen2 := Lib.hid (fits_len (runM_fits f hfe.out (L.take (j + 1))))
      generalize L.getD j default = s at x2 hsm hsuc
      have hws : IntKind.i64.wrap (s : Int) = s := by unfold IntKind.wrap; simp only [IntKind.signed, IntKind.bits, IntKind.min, IntKind.max]; first | omega | (simp; omega)
      have HS := Lib.hid hws
      have C2 := do_any f b f.en d (runM f (L.take j)) (IntKind.i64.wrap (s : Int)) wr.drew ((HF.out.fr FW.out).drewN 1) (M2.out.drewN 1) hen
      rw [show doE f (runM f (L.take j)) (IntKind.i64.wrap (s : Int)) = doE f (runM f (L.take j)) s by rw [hws], show doM f (runM f (L.take j)) (IntKind.i64.wrap (s : Int)).toNat = doM f (runM f (L.take j)) s by rw [hws, Int.toNat_natCast]] at C2
      clear hws
      have KP : ∀ w', Fr [] wr.drew w' → (w'.cell? ⟨w.heap.size, 0, none⟩ = some (.slice f.ea f.en f.ec) ∧ w'.cell? ⟨w.heap.size, 1, none⟩ = some (.slice f.ta f.tn f.tc) ∧ w'.cell? ⟨bl, ol + j, none⟩ = some (.int .u8 (s : Nat))) := fun w' hF => ⟨cell_fr x0 (((Fr.refl [] wr).drew).trans hF (by simp)), cell_fr x1 (((Fr.refl [] wr).drew).trans hF (by simp)), cell_fr x2 (((Fr.refl [] wr).drew).trans hF (by simp))⟩
      have KP := Lib.hid KP
      by_cases hE : doE f (runM f (L.take j)) s = 0
      · have HST := Lib.hid (runStep_do (f := f) (M := runM f (L.take j)) hE)
        rw [hE] at C2
        have D2 := Lib.hid (C2.mono fun e w' h => next_ok0 h)
        have hdl := Lib.hid (doM_length f (runM f (L.take j)) s)
        clear C2 hE
        unfold FlatD.val at D2
        go_wp2_with fail
        go_region_held_law (fun w' => w'.cell? ⟨w.heap.size, 0, none⟩ = some (.slice f.ea f.en f.ec) ∧ w'.cell? ⟨w.heap.size, 1, none⟩ = some (.slice f.ta f.tn f.tc) ∧ w'.cell? ⟨bl, ol + j, none⟩ = some (.int .u8 (s : Nat))) (first | exact KP.out _ hF3 | go_keep) (first | (go_at_call 29; refine D2.out.mono ?_; rintro e w3 ⟨a3, c3, rfl, hM3, hF3⟩))
        have M3 := Lib.hid hM3
        have F3 := Lib.hid ((F2.out.drew).trans hF3 (by simp))
        clear hM3 hF3
        go_wp2_with fail
        go_roundg (n - (j + 1))
        case measure => omega
        case rel => exact ⟨j + 1, a3, c3, rfl, by omega, by omega, by rw [hdl.out, hlen.out], rfl, by rw [hsuc.out, HST.out, Int.toNat_natCast, ← hlen.out, ← hdl.out]; exact M3.out, F3.out⟩
      · have C2' := C2.mono fun e w' h => next_bad0 hE h
        have D2 := Lib.hid C2'
        have HE := Lib.hid hE
        have hdE : decide (doE f (runM f (L.take j)) s = 0) = false := decide_eq_false hE
        have hdE2 : ((doE f (runM f (L.take j)) s) == 0) = false := by simpa using hE
        generalize hG : doE f (runM f (L.take j)) s = E at D2 hdE hdE2
        have HG := Lib.hid hG
        clear C2 C2' hE hG
        unfold FlatD.val at D2
        go_wp2_with fail
        go_region_held_law (fun w' => w'.cell? ⟨w.heap.size, 0, none⟩ = some (.slice f.ea f.en f.ec) ∧ w'.cell? ⟨w.heap.size, 1, none⟩ = some (.slice f.ta f.tn f.tc) ∧ w'.cell? ⟨bl, ol + j, none⟩ = some (.int .u8 (s : Nat))) (first | exact KP.out _ hF3 | go_keep) (first | (go_at_call 29; refine D2.out.mono ?_; rintro e w3 ⟨a3, c3, rfl, hM3, hF3⟩))
        have M3 := Lib.hid (M2.out.fr (((Fr.refl [] wr).drew).trans hF3 (by simp)))
        have F3 := Lib.hid ((F2.out.drew).trans hF3 (by simp))
        have y0 := (KP.out _ hF3).1
        have y1 := (KP.out _ hF3).2.1
        clear hM3 hF3 x0 x1 x2
        have C4 := tick_any f b f.en d (runM f (L.take j)) w3 M3.out hen
        unfold FlatD.val at C4
        by_cases hT : tickE f (runM f (L.take j)) = 0
        · have HST := Lib.hid (runStep_tick (f := f) (M := runM f (L.take j)) HE.out hT)
          rw [hT] at C4
          have C5 := C4.mono fun e w' h => next_ok0 h
          clear C4 hT
          go_wp2_with fail
          refine C5.mono ?_
          rintro e w4 ⟨a4, c4, rfl, hM4, hF4⟩
          have M4 := Lib.hid hM4
          have F4 := Lib.hid (F3.out.trans hF4 (by simp))
          have hml := Lib.hid (show ((runM f (L.take j)).map tickM).length = (runM f (L.take j)).length from List.length_map _)
          clear hM4 hF4 C5
          go_wp2_with fail
          go_roundg (n - (j + 1))
          case measure => omega
          case rel => exact ⟨j + 1, a4, c4, rfl, by omega, by omega, by first | rw [hml.out, hlen.out] | rw [hlen.out], rfl, by rw [hsuc.out, HST.out, ← hlen.out, ← hml.out]; exact M4.out, F4.out⟩
        · have HST := Lib.hid (runStep_none (f := f) (M := runM f (L.take j)) HE.out hT)
          have C5 := C4.mono fun e w' h => next_bad0 hT h
          have hdT : decide (tickE f (runM f (L.take j)) = 0) = false := decide_eq_false hT
          have hdT2 : ((tickE f (runM f (L.take j))) == 0) = false := by simpa using hT
          generalize tickE f (runM f (L.take j)) = ET at C5 hdT hdT2
          clear C4 hT
          go_wp2_with fail
          refine C5.mono ?_
          rintro e w4 ⟨a4, c4, rfl, hM4, hF4⟩
          have M4 := Lib.hid (M3.out.fr hF4)
          have F4 := Lib.hid (F3.out.trans hF4 (by simp))
          clear hM4 hF4 C5
          go_wp2_with fail
          go_roundg (n - (j + 1))
          case measure => omega
          case rel => exact ⟨j + 1, b, d, rfl, by omega, by omega, rfl, rfl, by rw [hsuc.out, HST.out]; exact M4.out, F4.out⟩
    · have ht : L.take j = L.take 60 := by
        have := hll.out
        by_cases h6 : j < 60
        · rw [List.take_of_length_le (by omega), List.take_of_length_le (by omega)]
        · rw [show j = 60 by omega]
      have HT := Lib.hid ht
      clear ht
      by_cases h1 : j < n
      · have hd : decide (j < n) = true := by rw [decide_eq_true_iff]; omega
        have hd6 : decide (j < 60) = false := by rw [decide_eq_false_iff_not]; omega
        go_wp2_with fail
        go_ret
        exact ⟨b, d, rfl, by rw [← HT.out]; exact M2.out, FW.out⟩
      · have hd : decide (j < n) = false := by rw [decide_eq_false_iff_not]; omega
        go_wp2_with fail
        go_ret
        exact ⟨b, d, rfl, by rw [← HT.out]; exact M2.out, FW.out⟩
end Go.Proofs.Ytclkahggfdnpgaa

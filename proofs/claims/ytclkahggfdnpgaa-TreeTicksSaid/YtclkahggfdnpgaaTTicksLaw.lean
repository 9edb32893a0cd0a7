/- As many ticks may come to a tree as its slack says: the walk. (Printed by genticks19.py.) -/
import Derived.Test.YtclkahggfdnpgaaTr21
import Derived.Test.YtclkahggfdnpgaaTrT
set_option linter.unusedVariables false
set_option linter.unusedSimpArgs false
namespace Go.Proofs.Ytclkahggfdnpgaa
open Go.RowKit
set_option maxRecDepth 100000 in
set_option maxHeartbeats 4000000 in
theorem treeTicks_walk (p : ProgD) (a1 : Option Addr) (len1 cap1 : Nat) (L : List ActD) (W : World) (hp : ProgIn W p) (hL : ActsAt W a1 len1 L) :
    Calls Try.prog 12 #[p.val, .slice a1 len1 cap1] W fun e w' => e = .returned (.bool true) ∧ Below W.heap.size W w' := by
  have hr := (Fr.refl [] W).alloc (.cells #[.slice p.pa p.Fs.length p.pc, .slice p.ca p.Cs.length p.cc] 62)
  have HR := Lib.hid hr
  have RB := Lib.hid (Row.new W [.slice p.pa p.Fs.length p.pc, .slice p.ca p.Cs.length p.cc] 62)
  have HP := Lib.hid hp
  have HL := Lib.hid hL
  clear hp hL hr
  obtain ⟨pn, hpn⟩ : ∃ n, n = p.Fs.length := ⟨_, rfl⟩
  obtain ⟨cn, hcn⟩ : ∃ n, n = p.Cs.length := ⟨_, rfl⟩
  have hval : p.val = .agg #[.slice p.pa pn p.pc, .slice p.ca cn p.cc] := by rw [hpn, hcn]; rfl
  have HVAL := Lib.hid hval
  rw [hval]
  rw [← hpn, ← hcn] at HR RB
  clear hval hpn hcn
  go_enter Try.func12, Try.ntmps12
  go_wp2_with fail
  refine (awake19_any _).mono ?_
  rintro e w1 ⟨rfl, hF1⟩
  have F1 := Lib.hid (HR.out.trans hF1 (by simp))
  have RB1 := Lib.hid (RB.out.fr hF1 (by simp))
  have x0 := RB1.out.cell 0
  have x1 := RB1.out.cell 1
  clear hF1
  have C2 := large19_any p w1 (HP.out.fr F1.out)
  rw [HVAL.out] at C2
  go_wp2_with fail
  refine C2.mono ?_
  rintro e w2 ⟨rfl, hF2⟩
  have F2 := Lib.hid (F1.out.trans hF2 (by simp))
  have RB2 := Lib.hid (RB1.out.fr hF2 (by simp))
  have y0 := RB2.out.cell 0
  have y1 := RB2.out.cell 1
  clear hF2 C2 x0 x1 RB RB1 F1 HR
  by_cases hl : bigP p = true
  · rw [hl]
    go_wp2_with fail
    go_ret
    exact ⟨rfl, F2.out.nil_below⟩
  have hl : bigP p = false := by simpa using hl
  have PA := Lib.hid (HP.out.at_ hl)
  rw [hl]
  clear hl
  have C3 := new_is p w2 (PA.out.1.fr F2.out) PA.out.2
  rw [HVAL.out] at C3
  go_wp2_with fail
  refine C3.mono ?_
  rintro e w3 (⟨hm, rfl, hF⟩ | ⟨_, tb, hi, S0, rfl, hIS, hG, hS, hF⟩)
  · have F3 := Lib.hid (F2.out.trans hF (by simp))
    have RB3 := Lib.hid (RB2.out.fr hF (by simp))
    have z0 := RB3.out.cell 0
    have z1 := RB3.out.cell 1
    have C4 := may_any p w3 (PA.out.1.fr F3.out)
    rw [HVAL.out, hm] at C4
    clear hF C3 y0 y1 hm
    go_wp2_with fail
    refine C4.mono ?_
    rintro e w4 ⟨rfl, hF⟩
    have F4 := Lib.hid (F3.out.trans hF (by simp))
    clear hF C4
    go_wp2_with fail
    go_ret
    exact ⟨rfl, F4.out.nil_below⟩
  have F3 := Lib.hid (F2.out.trans hF (by simp))
  have RB3 := Lib.hid (RB2.out.fr hF (by simp))
  have IS0 := Lib.hid hIS
  have G := Lib.hid hG
  have HS0 := Lib.hid (fun y hy => Nat.le_trans F2.out.size (hS y hy) : ∀ y ∈ S0, W.heap.size ≤ y)
  clear hIS hG hS hF C3 y0 y1
  generalize newPT p.Fs p.Cs = P0 at IS0 G
  go_wp2_with fail
  obtain ⟨N, hN⟩ : ∃ N, N = min len1 80 := ⟨_, rfl⟩
  have hN80 : N ≤ 80 := by omega
  have hNl : N ≤ len1 := by omega
  have HN := Lib.hid hN
  clear hN
  go_loopg [7] N (fun k i wr => ∃ (j : Nat) (S : List Nat), k = N - j ∧ j ≤ N ∧ i = .int .i64 j ∧ TreeIs wr tb hi S (runT P0 (L.take j)) ∧ (∀ y ∈ S, W.heap.size ≤ y) ∧ Fr [] W wr)
  case atStart => exact ⟨0, S0, rfl, by omega, rfl, IS0.out, HS0.out, F3.out⟩
  case round =>
    obtain ⟨j, S, rfl, hj, rfl, hIS, hS, hF⟩ := hrel
    have IS := Lib.hid hIS
    have HS := Lib.hid hS
    have F := Lib.hid hF
    clear hIS hS hF
    have GJ := Lib.hid ((runT_good G.out (L.take j)).mono (show 1 + (L.take j).length ≤ 81 by rw [List.length_take]; omega))
    by_cases hjn : j < N
    · have d1 : decide (j < len1) = true := decide_eq_true (by omega)
      have d2 : decide ((j : Int) < 80) = true := decide_eq_true (by omega)
      obtain ⟨gt, ot, ha, hgt, hct⟩ := (HL.out.rows.fr F.out).at_ (by omega)
      have hcx := hct j (by omega)
      have RS := Lib.hid (runT_succ P0 L j (by rw [HL.out.len]; omega))
      obtain ⟨x, hx⟩ : ∃ x, L.getD j default = x := ⟨_, rfl⟩
      rw [hx] at hcx RS
      have c0 : wr.cell? ⟨gt, ot + j * 3, none⟩ = some (.int .i64 x.k) := hcx 0 _ rfl
      have c1 : wr.cell? ⟨gt, ot + j * 3 + 1, none⟩ = some (.int .i64 x.id) := hcx 1 _ rfl
      have c2 : wr.cell? ⟨gt, ot + j * 3 + 2, none⟩ = some (.int .i64 x.at_) := hcx 2 _ rfl
      subst ha
      clear hct hcx hx hgt
      have C5 := act_is IS.out GJ.out (by omega) x.k x.id x.at_
      rw [← RS.out] at C5
      go_wp2_with fail
      refine C5.mono ?_
      rintro e w5 ⟨rfl, S', hIS, hF, hS⟩
      have IS5 := Lib.hid hIS
      have HS5 := Lib.hid (fun y hy => (by rcases hS y hy with h | h; exact HS.out y h; exact Nat.le_trans F.out.size h) : ∀ y ∈ S', W.heap.size ≤ y)
      have F5 := Lib.hid (F.out.trans hF (fun y hy => .inr (HS.out y hy)))
      clear hIS hF hS C5 c0 c1 c2
      go_wp2_with fail
      go_roundg (N - (j + 1))
      case measure => omega
      case rel => exact ⟨j + 1, S', rfl, by omega, rfl, IS5.out, HS5.out, F5.out⟩
    · have hjN : j = N := by omega
      by_cases h1 : j < len1
      · have d1 : decide (j < len1) = true := decide_eq_true h1
        have d2 : decide ((j : Int) < 80) = false := decide_eq_false (by have := HN.out; omega)
        clear hjn hjN
        go_wp2_with fail
        have C6 := slack_is IS.out GJ.out (by omega)
        obtain ⟨P, hP⟩ : ∃ P, runT P0 (L.take j) = P := ⟨_, rfl⟩
        rw [hP] at IS GJ C6
        clear hP
        go_wp2_with fail
        refine C6.mono ?_
        rintro e w6 ⟨rfl, hF⟩
        have F6 := Lib.hid (F.out.trans hF (by simp))
        have IS6 := Lib.hid (IS.out.fr hF)
        clear hF C6
        have hs := GJ.out.slack_nn
        obtain ⟨s, hs0⟩ : ∃ s, P.slack = s := ⟨_, rfl⟩
        have HSL := Lib.hid hs0
        rw [hs0] at hs ⊢
        obtain ⟨Q, hQ⟩ : ∃ Q, Q = (min s 20).toNat := ⟨_, rfl⟩
        have hQ20 : Q ≤ 20 := by omega
        have hQs : (Q : Int) ≤ s := by omega
        have hsQ := Lib.hid (by omega : s ≤ 20 → (Q : Int) = s)
        have hsQ2 := Lib.hid (by omega : 20 < s → Q = 20)
        obtain ⟨hs1, hs2⟩ := hs
        clear hs0 hQ
        go_wp2_with fail
        obtain ⟨wo, rfl⟩ : ∃ wo, wo = wr := ⟨_, rfl⟩
        go_loopg [9] Q (fun k i wr => ∃ (q : Nat) (S : List Nat), k = Q - q ∧ q ≤ Q ∧ i = .int .i64 q ∧ TreeIs wr tb hi S (tickN P q) ∧ (∀ y ∈ S, W.heap.size ≤ y) ∧ Fr [] W wr)
        case atStart => exact ⟨0, S, rfl, by omega, rfl, IS6.out, HS.out, F6.out⟩
        case round =>
          obtain ⟨q, S2, rfl, hq, rfl, hIS, hS, hF⟩ := hrel
          have IS7 := Lib.hid hIS
          have HS7 := Lib.hid hS
          have F7 := Lib.hid hF
          have GQ := Lib.hid (tickN_good GJ.out q)
          have SQ := Lib.hid (tickN_slack GJ.out HSL.out q (by omega))
          clear hIS hS hF
          by_cases hqQ : q < Q
          · have d1 : decide ((q : Int) < s) = true := decide_eq_true (by omega)
            have d2 : decide ((q : Int) < 20) = true := decide_eq_true (by omega)
            have hgo : 1 ≤ (tickN P q).slack := by rw [SQ.out]; split <;> omega
            have C7 := tick_is IS7.out GQ.out (by omega)
            rw [show (tickF (tickN P q)).1 = 0 by rw [tickF_go hgo], show (tickF (tickN P q)).2 = tickN P (q + 1) from rfl] at C7
            clear hgo
            go_wp2_with fail
            refine C7.mono ?_
            rintro e w7 ⟨rfl, S3, hIS, hF, hS⟩
            have IS8 := Lib.hid hIS
            have HS8 := Lib.hid (fun y hy => (by rcases hS y hy with h | h; exact HS7.out y h; exact Nat.le_trans F7.out.size h) : ∀ y ∈ S3, W.heap.size ≤ y)
            have F8 := Lib.hid (F7.out.trans hF (fun y hy => .inr (HS7.out y hy)))
            have GQ2 := Lib.hid (tickN_good GJ.out (q + 1))
            have SQ2 := Lib.hid (tickN_slack GJ.out HSL.out (q + 1) (by omega))
            clear hIS hF hS C7
            by_cases hsb : s < 1048576
            · have e3 : decide (s < 1048576) = true := decide_eq_true hsb
              obtain ⟨v, hv⟩ : ∃ v, v = s - (q : Int) - 1 := ⟨_, rfl⟩
              have hkk : (v != s - (q : Int) - 1) = false := by rw [hv]; simp
              have hk1 : decide (v > s) = false := decide_eq_false (by omega)
              have hvv : (tickN P (q + 1)).slack = v := by rw [SQ2.out, if_pos hsb]; omega
              have C8 := slack_is IS8.out GQ2.out (by omega)
              rw [hvv] at C8
              have C9 := Lib.hid (fun w9 (f9 : Fr [] w7 w9) => (by
                have := slack_is (IS8.out.fr f9) GQ2.out (by omega)
                rwa [hvv] at this : Calls Try.prog 54 #[.pointer (some ⟨tb, 0, none⟩)] w9 fun e w' => e = .returned (.int .i64 v) ∧ Fr [] w9 w'))
              clear hv hvv
              go_wp2_with fail
              refine C8.mono ?_
              rintro e w8 ⟨rfl, hF⟩
              have H8 := Lib.hid hF
              clear hF C8
              go_wp2_with fail
              refine (C9.out w8 H8.out).mono ?_
              rintro e w9 ⟨rfl, hF⟩
              have F9 := Lib.hid ((F8.out.trans H8.out (by simp)).trans hF (by simp))
              have IS9 := Lib.hid ((IS8.out.fr H8.out).fr hF)
              clear hF C9
              go_wp2_with fail
              go_roundg (Q - (q + 1))
              case measure => omega
              case rel => exact ⟨q + 1, S3, rfl, by omega, rfl, IS9.out, HS8.out, F9.out⟩
            · have hs48 : s = 1048576 := by omega
              have C8 := slack_is IS8.out GQ2.out (by omega)
              rw [SQ2.out, if_neg (by omega)] at C8
              have e3 : decide (s < 1048576) = false := decide_eq_false (by omega)
              have e4 : decide ((1048576 : Int) > s) = false := decide_eq_false (by omega)
              clear hs48
              clear hsb
              go_wp2_with fail
              refine C8.mono ?_
              rintro e w8 ⟨rfl, hF⟩
              have F9 := Lib.hid (F8.out.trans hF (by simp))
              have IS9 := Lib.hid (IS8.out.fr hF)
              clear hF C8
              go_wp2_with fail
              go_roundg (Q - (q + 1))
              case measure => omega
              case rel => exact ⟨q + 1, S3, rfl, by omega, rfl, IS9.out, HS8.out, F9.out⟩
          · have hqe : q = Q := by omega
            by_cases hs20 : s ≤ 20
            · have hqs : (q : Int) = s := by rw [hqe, hsQ.out hs20]
              have d1 : decide ((q : Int) < s) = false := decide_eq_false (by omega)
              have d5 : decide (s ≤ 20) = true := decide_eq_true (by omega)
              have hz : (tickN P q).slack = 0 := by rw [SQ.out, if_pos (by omega)]; omega
              have C7 := tick_is IS7.out GQ.out (by omega)
              rw [tickF_due (by omega : (tickN P q).slack < 1)] at C7
              have HZ := Lib.hid hz
              clear hz hqe hsQ hsQ2 hqs
              go_wp2_with fail
              refine C7.mono ?_
              rintro e w7 ⟨rfl, S3, hIS, hF, hS⟩
              have IS8 := Lib.hid hIS
              have F8 := Lib.hid (F7.out.trans hF (fun y hy => .inr (HS7.out y hy)))
              clear hIS hF hS C7
              have C8 := slack_is IS8.out GQ.out (by omega)
              simp only [HZ.out] at C8
              go_wp2_with fail
              refine C8.mono ?_
              rintro e w8 ⟨rfl, hF⟩
              have F9 := Lib.hid (F8.out.trans hF (by simp))
              have C9 := done_is (IS8.out.fr hF) GQ.out (by omega)
              rw [GQ.out.slack_done HZ.out] at C9
              clear hF C8
              go_wp2_with fail
              refine C9.mono ?_
              rintro e w9 ⟨rfl, hF⟩
              have F10 := Lib.hid (F9.out.trans hF (by simp))
              clear hF C9
              go_wp2_with fail
              go_ret
              exact ⟨rfl, F10.out.nil_below⟩
            · have hq20 : q = 20 := by rw [hqe, hsQ2.out (by omega)]
              subst hq20
              have d1 : decide ((20 : Int) < s) = true := decide_eq_true (by omega)
              have d5 : decide (s ≤ 20) = false := decide_eq_false (by omega)
              obtain ⟨v, hv⟩ : ∃ v, (tickN P 20).slack = v := ⟨_, rfl⟩
              have hv0 : 0 < v := by rw [← hv, SQ.out]; split <;> omega
              have C8 := slack_is IS7.out GQ.out (by omega)
              rw [hv] at C8
              have d6 : decide (v > 0) = true := decide_eq_true hv0
              clear hv hqe hsQ hsQ2
              go_wp2_with fail
              refine C8.mono ?_
              rintro e w8 ⟨rfl, hF⟩
              have F9 := Lib.hid (F7.out.trans hF (by simp))
              clear hF C8
              go_wp2_with fail
              go_ret
              exact ⟨rfl, F9.out.nil_below⟩
      · have d1 : decide (j < len1) = false := decide_eq_false h1
        clear hjn hjN
        go_wp2_with fail
        have C6 := slack_is IS.out GJ.out (by omega)
        obtain ⟨P, hP⟩ : ∃ P, runT P0 (L.take j) = P := ⟨_, rfl⟩
        rw [hP] at IS GJ C6
        clear hP
        go_wp2_with fail
        refine C6.mono ?_
        rintro e w6 ⟨rfl, hF⟩
        have F6 := Lib.hid (F.out.trans hF (by simp))
        have IS6 := Lib.hid (IS.out.fr hF)
        clear hF C6
        have hs := GJ.out.slack_nn
        obtain ⟨s, hs0⟩ : ∃ s, P.slack = s := ⟨_, rfl⟩
        have HSL := Lib.hid hs0
        rw [hs0] at hs ⊢
        obtain ⟨Q, hQ⟩ : ∃ Q, Q = (min s 20).toNat := ⟨_, rfl⟩
        have hQ20 : Q ≤ 20 := by omega
        have hQs : (Q : Int) ≤ s := by omega
        have hsQ := Lib.hid (by omega : s ≤ 20 → (Q : Int) = s)
        have hsQ2 := Lib.hid (by omega : 20 < s → Q = 20)
        obtain ⟨hs1, hs2⟩ := hs
        clear hs0 hQ
        go_wp2_with fail
        obtain ⟨wo, rfl⟩ : ∃ wo, wo = wr := ⟨_, rfl⟩
        go_loopg [9] Q (fun k i wr => ∃ (q : Nat) (S : List Nat), k = Q - q ∧ q ≤ Q ∧ i = .int .i64 q ∧ TreeIs wr tb hi S (tickN P q) ∧ (∀ y ∈ S, W.heap.size ≤ y) ∧ Fr [] W wr)
        case atStart => exact ⟨0, S, rfl, by omega, rfl, IS6.out, HS.out, F6.out⟩
        case round =>
          obtain ⟨q, S2, rfl, hq, rfl, hIS, hS, hF⟩ := hrel
          have IS7 := Lib.hid hIS
          have HS7 := Lib.hid hS
          have F7 := Lib.hid hF
          have GQ := Lib.hid (tickN_good GJ.out q)
          have SQ := Lib.hid (tickN_slack GJ.out HSL.out q (by omega))
          clear hIS hS hF
          by_cases hqQ : q < Q
          · have d1 : decide ((q : Int) < s) = true := decide_eq_true (by omega)
            have d2 : decide ((q : Int) < 20) = true := decide_eq_true (by omega)
            have hgo : 1 ≤ (tickN P q).slack := by rw [SQ.out]; split <;> omega
            have C7 := tick_is IS7.out GQ.out (by omega)
            rw [show (tickF (tickN P q)).1 = 0 by rw [tickF_go hgo], show (tickF (tickN P q)).2 = tickN P (q + 1) from rfl] at C7
            clear hgo
            go_wp2_with fail
            refine C7.mono ?_
            rintro e w7 ⟨rfl, S3, hIS, hF, hS⟩
            have IS8 := Lib.hid hIS
            have HS8 := Lib.hid (fun y hy => (by rcases hS y hy with h | h; exact HS7.out y h; exact Nat.le_trans F7.out.size h) : ∀ y ∈ S3, W.heap.size ≤ y)
            have F8 := Lib.hid (F7.out.trans hF (fun y hy => .inr (HS7.out y hy)))
            have GQ2 := Lib.hid (tickN_good GJ.out (q + 1))
            have SQ2 := Lib.hid (tickN_slack GJ.out HSL.out (q + 1) (by omega))
            clear hIS hF hS C7
            by_cases hsb : s < 1048576
            · have e3 : decide (s < 1048576) = true := decide_eq_true hsb
              obtain ⟨v, hv⟩ : ∃ v, v = s - (q : Int) - 1 := ⟨_, rfl⟩
              have hkk : (v != s - (q : Int) - 1) = false := by rw [hv]; simp
              have hk1 : decide (v > s) = false := decide_eq_false (by omega)
              have hvv : (tickN P (q + 1)).slack = v := by rw [SQ2.out, if_pos hsb]; omega
              have C8 := slack_is IS8.out GQ2.out (by omega)
              rw [hvv] at C8
              have C9 := Lib.hid (fun w9 (f9 : Fr [] w7 w9) => (by
                have := slack_is (IS8.out.fr f9) GQ2.out (by omega)
                rwa [hvv] at this : Calls Try.prog 54 #[.pointer (some ⟨tb, 0, none⟩)] w9 fun e w' => e = .returned (.int .i64 v) ∧ Fr [] w9 w'))
              clear hv hvv
              go_wp2_with fail
              refine C8.mono ?_
              rintro e w8 ⟨rfl, hF⟩
              have H8 := Lib.hid hF
              clear hF C8
              go_wp2_with fail
              refine (C9.out w8 H8.out).mono ?_
              rintro e w9 ⟨rfl, hF⟩
              have F9 := Lib.hid ((F8.out.trans H8.out (by simp)).trans hF (by simp))
              have IS9 := Lib.hid ((IS8.out.fr H8.out).fr hF)
              clear hF C9
              go_wp2_with fail
              go_roundg (Q - (q + 1))
              case measure => omega
              case rel => exact ⟨q + 1, S3, rfl, by omega, rfl, IS9.out, HS8.out, F9.out⟩
            · have hs48 : s = 1048576 := by omega
              have C8 := slack_is IS8.out GQ2.out (by omega)
              rw [SQ2.out, if_neg (by omega)] at C8
              have e3 : decide (s < 1048576) = false := decide_eq_false (by omega)
              have e4 : decide ((1048576 : Int) > s) = false := decide_eq_false (by omega)
              clear hs48
              clear hsb
              go_wp2_with fail
              refine C8.mono ?_
              rintro e w8 ⟨rfl, hF⟩
              have F9 := Lib.hid (F8.out.trans hF (by simp))
              have IS9 := Lib.hid (IS8.out.fr hF)
              clear hF C8
              go_wp2_with fail
              go_roundg (Q - (q + 1))
              case measure => omega
              case rel => exact ⟨q + 1, S3, rfl, by omega, rfl, IS9.out, HS8.out, F9.out⟩
          · have hqe : q = Q := by omega
            by_cases hs20 : s ≤ 20
            · have hqs : (q : Int) = s := by rw [hqe, hsQ.out hs20]
              have d1 : decide ((q : Int) < s) = false := decide_eq_false (by omega)
              have d5 : decide (s ≤ 20) = true := decide_eq_true (by omega)
              have hz : (tickN P q).slack = 0 := by rw [SQ.out, if_pos (by omega)]; omega
              have C7 := tick_is IS7.out GQ.out (by omega)
              rw [tickF_due (by omega : (tickN P q).slack < 1)] at C7
              have HZ := Lib.hid hz
              clear hz hqe hsQ hsQ2 hqs
              go_wp2_with fail
              refine C7.mono ?_
              rintro e w7 ⟨rfl, S3, hIS, hF, hS⟩
              have IS8 := Lib.hid hIS
              have F8 := Lib.hid (F7.out.trans hF (fun y hy => .inr (HS7.out y hy)))
              clear hIS hF hS C7
              have C8 := slack_is IS8.out GQ.out (by omega)
              simp only [HZ.out] at C8
              go_wp2_with fail
              refine C8.mono ?_
              rintro e w8 ⟨rfl, hF⟩
              have F9 := Lib.hid (F8.out.trans hF (by simp))
              have C9 := done_is (IS8.out.fr hF) GQ.out (by omega)
              rw [GQ.out.slack_done HZ.out] at C9
              clear hF C8
              go_wp2_with fail
              refine C9.mono ?_
              rintro e w9 ⟨rfl, hF⟩
              have F10 := Lib.hid (F9.out.trans hF (by simp))
              clear hF C9
              go_wp2_with fail
              go_ret
              exact ⟨rfl, F10.out.nil_below⟩
            · have hq20 : q = 20 := by rw [hqe, hsQ2.out (by omega)]
              subst hq20
              have d1 : decide ((20 : Int) < s) = true := decide_eq_true (by omega)
              have d5 : decide (s ≤ 20) = false := decide_eq_false (by omega)
              obtain ⟨v, hv⟩ : ∃ v, (tickN P 20).slack = v := ⟨_, rfl⟩
              have hv0 : 0 < v := by rw [← hv, SQ.out]; split <;> omega
              have C8 := slack_is IS7.out GQ.out (by omega)
              rw [hv] at C8
              have d6 : decide (v > 0) = true := decide_eq_true hv0
              clear hv hqe hsQ hsQ2
              go_wp2_with fail
              refine C8.mono ?_
              rintro e w8 ⟨rfl, hF⟩
              have F9 := Lib.hid (F7.out.trans hF (by simp))
              clear hF C8
              go_wp2_with fail
              go_ret
              exact ⟨rfl, F9.out.nil_below⟩
end Go.Proofs.Ytclkahggfdnpgaa


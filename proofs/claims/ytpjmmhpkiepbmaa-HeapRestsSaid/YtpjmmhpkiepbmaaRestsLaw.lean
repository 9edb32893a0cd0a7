/- What is taken out of the middle changes nothing of the others' order: the law. -/
import Derived.Test.YtpjmmhpkiepbmaaHpA
import Derived.Test.YtpjmmhpkiepbmaaHpOpen
import Derived.Test.YtpjmmhpkiepbmaaRestsP
import Derived.StillTailTactics
import Derived.Deep.RegionHeldLaw
set_option linter.unusedVariables false
set_option linter.unusedSimpArgs false
namespace Go.Proofs.Ytpjmmhpkiepbmaa
open Go.RowKit
theorem wf_u16 {m : Int} (h : (Lit.int .u16 m).wf = true) : 0 ≤ m ∧ m ≤ 65535 := by
  simp only [Lit.wf, IntKind.min, IntKind.max, IntKind.bits, IntKind.signed] at h
  simpa using h
/-- Is element j to be taken out again? -/
def goneB (L2 : List Bool) (j : Nat) : Bool := decide (j < L2.length) && L2.getD j default
set_option maxRecDepth 100000 in
set_option maxHeartbeats 8000000 in
theorem heapRests_walk (a0 : Int) (a1 : Option Addr) (len1 cap1 : Nat) (L1 : List ItD) (a2 : Option Addr) (len2 cap2 : Nat) (L2 : List Bool) (W : World) (hw0 : (Lit.int .u16 a0).wf = true) (h1 : ItsIn W a1 len1 L1) (h2 : FlgIn W a2 len2 L2) :
    Calls Try.prog 6 #[.int .u16 a0, .slice a1 len1 cap1, .slice a2 len2 cap2] W fun e w' => e = .returned (.bool true) ∧ Below W.heap.size W w' := by
  obtain ⟨E, hE, hE0, hEg⟩ := intE_ex
  have b0 := wf_u16 hw0
  clear hw0
  obtain ⟨s, rfl⟩ := Int.eq_ofNat_of_zero_le b0.1
  have hs255 : s ≤ 65535 := by omega
  clear b0
  have H1 := Lib.hid h1
  have H2 := Lib.hid h2
  clear h1 h2
  go_enter Try.func6, Try.ntmps6
  go_wp2_with fail
  refine (awake_any _).mono ?_
  rintro e w1 ⟨rfl, f1⟩
  have F1 := Lib.hid f1
  clear f1
  go_wp2_with fail
  refine (new_c E (s + 1) _ (by unfold stepOk; omega)).mono ?_
  rintro e w2 ⟨rfl, h2, f2, hs2⟩
  have hbase : W.heap.size ≤ w1.heap.size := F1.out.size
  have HH2 := Lib.hid h2
  have F2 := Lib.hid f2
  have HS2 := Lib.hid hs2
  clear h2 f2 hs2
  go_wp2_with fail
  refine (new_c E (s + 1) _ (by unfold stepOk; omega)).mono ?_
  rintro e w3 ⟨rfl, h3, f3, hs3⟩
  have T0 : TwoS E W w3 w1.heap.size 0 0 (s + 1) [] [] (.slice none 0 0) (.slice none 0 0) := by
    rw [HS2.out] at h3
    exact ⟨HH2.out.fr f3, h3, (fun y hy => by cases hy), (F1.out.trans F2.out (fun y hy => .inl hy)).trans f3 (fun y hy => .inl hy)⟩
  have TT := Lib.hid T0
  rw [HS2.out, show w1.heap.size + 2 + 1 = w1.heap.size + 3 from rfl]
  clear h3 f3 hs3 T0 HH2 HS2 F2 F1
  generalize w1.heap.size = u at *
  go_wp2_with fail
  go_loopg [11] 100 (fun k i wr => ∃ (j na nb : Nat) (A B : List ItD) (va vb : Value), k = 100 - j ∧ j ≤ 100 ∧ j ≤ len1 ∧ i = .int .i64 j ∧ na ≤ 2002 * j ∧ nb ≤ 2002 * j ∧ Inv1 (fun i => L1.getD i default) j A B ∧ TwoS E W wr u na nb (s + 1) A B va vb)
  case atStart => exact ⟨0, 0, 0, [], [], _, _, rfl, by omega, by omega, rfl, by omega, by omega, ⟨(fun x hx => by cases hx), (fun x hx => by cases hx), by simp, by simp⟩, TT.out⟩
  case round =>
    obtain ⟨j, na, nb, A, B, va, vb, rfl, hj, hjl, rfl, hna, hnb, hi, ht⟩ := hrel
    have HI := Lib.hid hi
    have HT := Lib.hid ht
    clear hi ht TT
    by_cases hlt : j < len1 ∧ j < 100
    · have d1 : decide (j < len1) = true := decide_eq_true hlt.1
      have d2 : decide ((j : Int) < 100) = true := decide_eq_true (by omega)
      obtain ⟨bb, o, rfl, hbb, hcell⟩ := H1.out.rows.at_ (by omega)
      have C0 := Lib.hid (hcell j hlt.1 0 _ rfl)
      have C1 := Lib.hid (hcell j hlt.1 1 _ rfl)
      have C2 := Lib.hid (hcell j hlt.1 2 _ rfl)
      have hids := H1.out.ids j
      have SK := Lib.hid HI.out.skip
      have pa := HI.out.putA (s := (s : Int) + 1)
      have pb := fun hno => HI.out.putB (s := (s : Int) + 1) (by omega) hno
      have sm := fun hno => HI.out.same (by omega) hno
      clear hcell
      generalize hxx : L1.getD j default = x at C0 C1 C2 hids pa pb sm
      have PA := Lib.hid pa
      have PB := Lib.hid pb
      have SM := Lib.hid sm
      clear pa pb sm
      have HXX := Lib.hid hxx
      clear hxx
      have y0 : wr.cell? ⟨bb, o + j * 3, none⟩ = some (.int .i64 x.id) := cell_fr C0.out HT.out.fr
      have C := has_any E _ _ _ _ _ _ _ _ HT.out.ha.at_ x.id hids.1
      cases hh : hasI A x.id with
      | true =>
        rw [show (posM A x.id).isSome = true from hh] at C
        have D := Lib.hid C
        clear C hh
        go_wp2_with fail
        refine D.out.mono ?_
        rintro e w5 ⟨rfl, hw5⟩
        rw [← hw5]
        clear hw5 D
        go_wp2_with fail
        go_roundg (100 - (j + 1))
        case measure => omega
        case rel => exact ⟨j + 1, na, nb, A, B, va, vb, rfl, by omega, by omega, rfl, by omega, by omega, SK.out, HT.out⟩
      | false =>
        rw [show (posM A x.id).isSome = false from hh] at C
        have D := Lib.hid C
        have HH := Lib.hid hh
        have CP := put_c hE hEg HT.out.ha x hids.1 (by omega)
        simp only [ItD.val] at CP
        have DP := Lib.hid CP
        have y1 : wr.cell? ⟨bb, o + j * 3 + 1, none⟩ = some (.int .i64 x.base) := cell_fr C1.out HT.out.fr
        have y2 : wr.cell? ⟨bb, o + j * 3 + 2, none⟩ = some (.int .i64 x.since) := cell_fr C2.out HT.out.fr
        have hg3 : (decide (j < len2) = false) ∨ (decide (j < len2) = true ∧ j < len2 ∧ ∃ b2 o2, a2 = some ⟨b2, o2, none⟩ ∧ wr.cell? ⟨b2, o2 + j, none⟩ = some (.bool false)) ∨ (decide (j < len2) = true ∧ j < len2 ∧ ∃ b2 o2, a2 = some ⟨b2, o2, none⟩ ∧ wr.cell? ⟨b2, o2 + j, none⟩ = some (.bool true)) := by
          by_cases h : j < len2
          · obtain ⟨b2, o2, ha2, hb2, hc2⟩ := H2.out.rows.at_ (by omega)
            have h3 := cell_fr (hc2 j h 0 _ rfl) HT.out.fr
            rw [Nat.mul_one, Nat.add_zero] at h3
            cases hv : L2.getD j default with
            | false => rw [hv] at h3; exact .inr (.inl ⟨decide_eq_true h, h, b2, o2, ha2, h3⟩)
            | true => rw [hv] at h3; exact .inr (.inr ⟨decide_eq_true h, h, b2, o2, ha2, h3⟩)
          · exact .inl (decide_eq_false h)
        clear C hh CP
        rcases hg3 with d3 | ⟨d3, hj2, b2, o2, rfl, g2⟩ | ⟨d3, hj2, b2, o2, rfl, g2⟩
        iterate 2
          go_wp2_with fail
          refine D.out.mono ?_
          rintro e w5 ⟨rfl, hw5⟩
          rw [← hw5]
          clear hw5
          go_wp2_with fail
          refine DP.out.mono ?_
          rintro e w6 ⟨rfl, N⟩
          obtain ⟨n6, v6, hn6, t6⟩ := HT.out.stepA N hbase
          have T6 := Lib.hid t6
          have CQ := put_c hE hEg t6.hb x hids.1 (by omega)
          rw [SM.out HH.out] at CQ
          simp only [ItD.val] at CQ
          have DQ := Lib.hid CQ
          have y0 : w6.cell? ⟨bb, o + j * 3, none⟩ = some (.int .i64 x.id) := cell_fr C0.out t6.fr
          have y1 : w6.cell? ⟨bb, o + j * 3 + 1, none⟩ = some (.int .i64 x.base) := cell_fr C1.out t6.fr
          have y2 : w6.cell? ⟨bb, o + j * 3 + 2, none⟩ = some (.int .i64 x.since) := cell_fr C2.out t6.fr
          have hpb := PB.out HH.out
          have HPB := Lib.hid hpb
          clear t6 N CQ D DP hpb
          generalize putE A x = ec at DQ ⊢
          go_wp2_with fail
          refine DQ.out.mono ?_
          rintro e w7 ⟨rfl, N⟩
          obtain ⟨n7, v7, hn7, t7⟩ := T6.out.stepB N hbase
          have T7 := Lib.hid t7
          clear t7 N DQ y0 y1 y2
          go_wp2_with fail
          go_roundg (100 - (j + 1))
          case measure => omega
          case rel => exact ⟨j + 1, n6, n7, _, _, v6, v7, rfl, by omega, by omega, rfl, by omega, by omega, HPB.out, T7.out⟩
        go_wp2_with fail
        refine D.out.mono ?_
        rintro e w5 ⟨rfl, hw5⟩
        rw [← hw5]
        clear hw5
        go_wp2_with fail
        refine DP.out.mono ?_
        rintro e w6 ⟨rfl, N⟩
        obtain ⟨n6, v6, hn6, t6⟩ := HT.out.stepA N hbase
        have T6 := Lib.hid t6
        clear t6 N D DP y0 y1 y2 g2
        generalize putE A x = ec
        go_wp2_with fail
        go_roundg (100 - (j + 1))
        case measure => omega
        case rel => exact ⟨j + 1, n6, nb, _, B, v6, vb, rfl, by omega, by omega, rfl, by omega, by omega, PA.out, T6.out⟩
    · have hex : (decide (j < len1) = false ∧ j = len1 ∧ j ≤ 100) ∨ (decide (j < len1) = true ∧ decide ((j : Int) < 100) = false ∧ j = 100 ∧ j ≤ len1) := by
        by_cases h : j < len1
        · exact .inr ⟨decide_eq_true h, decide_eq_false (by omega), by omega, by omega⟩
        · exact .inl ⟨decide_eq_false h, by omega, by omega⟩
      have TI := Lib.hid HI.out.two
      have hjj : ∀ t, t < j → t < len1 ∧ t < 100 := fun t ht => by rcases hex with h | h <;> omega
      have hje : ∀ t, t ≤ j → ¬ t < j → (decide (t < len1) = false ∨ decide (t < len1) = true ∧ decide ((t : Int) < 100) = false) := fun t ht h => by
        by_cases h2 : t < len1
        · exact .inr ⟨decide_eq_true h2, decide_eq_false (by rcases hex with h3 | h3 <;> omega)⟩
        · exact .inl (decide_eq_false h2)
      have HJJ := Lib.hid hjj
      have HJE := Lib.hid hje
      clear hlt hjj hje
      rcases hex with ⟨d1, -, -⟩ | ⟨d1, d2, -, -⟩
      all_goals
        go_wp2_with fail
        obtain ⟨wo, rfl⟩ : ∃ wo, wo = wr := ⟨_, rfl⟩
        go_loopg [14] j (fun k i wr => ∃ (t na nb : Nat) (A B : List ItD) (va vb : Value), k = j - t ∧ t ≤ j ∧ i = .int .i64 t ∧ na ≤ 200200 + 5000 * t ∧ nb ≤ 200200 ∧ Inv2 (fun i => L1.getD i default) t j A B ∧ TwoS E W wr u na nb (s + 1) A B va vb)
        case atStart => exact ⟨0, na, nb, A, B, va, vb, rfl, by omega, rfl, by omega, by omega, TI.out, HT.out⟩
        case round =>
          clear HI HT TI hna hnb d1
          obtain ⟨t, na, nb, A, B, va, vb, rfl, htj, rfl, hna, hnb, hi, ht⟩ := hrel
          have HI := Lib.hid hi
          have HT := Lib.hid ht
          clear hi ht
          by_cases hlt : t < j
          · have hl2 := HJJ.out t hlt
            have d3 : decide (t < len1) = true := decide_eq_true hl2.1
            have d4 : decide ((t : Int) < 100) = true := decide_eq_true (by omega)
            obtain ⟨bb, o, rfl, hbb, hcell⟩ := H1.out.rows.at_ (by omega)
            have C0 := Lib.hid (hcell t hl2.1 0 _ rfl)
            have hids := H1.out.ids t
            have kp := fun hb => HI.out.keep HT.out.ha.good hb
            have dr := fun hb => HI.out.drop HT.out.ha.good hb
            have y0 : wr.cell? ⟨bb, o + t * 3, none⟩ = some (.int .i64 (L1.getD t default).id) := cell_fr C0.out HT.out.fr
            clear hcell C0
            generalize L1.getD t default = x at hids y0 kp dr
            have KP := Lib.hid kp
            have DR := Lib.hid dr
            have C := has_any E _ _ _ _ _ _ _ _ HT.out.hb.at_ x.id hids.1
            clear kp dr
            cases hh : hasI B x.id with
            | true =>
              rw [show (posM B x.id).isSome = true from hh] at C
              have D := Lib.hid C
              have HK := Lib.hid (KP.out hh)
              clear C hh
              go_wp2_with fail
              refine D.out.mono ?_
              rintro e w5 ⟨rfl, hw5⟩
              rw [← hw5]
              clear hw5 D
              go_wp2_with fail
              go_roundg (j - (t + 1))
              case measure => omega
              case rel => exact ⟨t + 1, na, nb, A, B, va, vb, rfl, by omega, rfl, by omega, by omega, HK.out, HT.out⟩
            | false =>
              rw [show (posM B x.id).isSome = false from hh] at C
              have D := Lib.hid C
              have HK := Lib.hid (DR.out hh)
              have CR := rem_c hE hE0 hEg HT.out.ha x.id hids.1 (by omega)
              simp only [ItD.val] at CR
              generalize remX A x.id = rx at CR
              generalize hasI A x.id = rb at CR
              have DRR := Lib.hid CR
              clear C hh CR
              go_wp2_with fail
              refine D.out.mono ?_
              rintro e w5 ⟨rfl, hw5⟩
              rw [← hw5]
              clear hw5 D
              go_wp2_with fail
              refine DRR.out.mono ?_
              rintro e w6 ⟨rfl, N⟩
              obtain ⟨n6, v6, hn6, t6⟩ := HT.out.stepA N hbase
              have T6 := Lib.hid t6
              clear N t6 DRR y0
              go_wp2_with fail
              go_roundg (j - (t + 1))
              case measure => omega
              case rel => exact ⟨t + 1, n6, nb, _, B, v6, vb, rfl, by omega, rfl, by omega, by omega, HK.out, T6.out⟩
          · obtain rfl : t = j := by omega
            have hje := HJE.out t htj hlt
            have DN := Lib.hid (fun C D pc pd sc sd => HI.out.done (C := C) (D := D) HT.out.ha.good HT.out.hb.good pc pd sc sd)
            clear hlt htj
            rcases hje with d5 | ⟨d5, d6⟩
            all_goals
              go_wp2_with fail
              refine (list_any E _ _ _ _ _ _ _ _ HT.out.ha.at_ HT.out.ha.good).mono ?_
              rintro e w7 ⟨ga, ca, DA, rfl, pa, sa, ia, _, fa⟩
              have T7 := Lib.hid (HT.out.fr2 fa)
              have IA := Lib.hid ia
              have PA := Lib.hid pa
              have SA := Lib.hid sa
              clear fa ia pa sa
              go_wp2_with fail
              refine (list_any E _ _ _ _ _ _ _ _ T7.out.hb.at_ T7.out.hb.good).mono ?_
              rintro e w8 ⟨gb, cb, DB, rfl, pb, sb, ib, _, fb⟩
              have hdd := DN.out DA DB PA.out pb SA.out sb
              have F8 := Lib.hid (T7.out.fr.trans fb (fun y hy => .inl hy))
              have IA8 := Lib.hid (IA.out.fr fb (by simp))
              have IB8 := Lib.hid ib
              have hla := IA.out.len
              have hlb := ib.len
              rw [← hdd] at hlb
              rw [hla] at hlb
              rw [← hlb, ← hdd] at ib
              rw [← hlb]
              have IB9 := Lib.hid ib
              have hN : A.length ≤ 1000 := HT.out.ha.good.few
              clear hdd hlb hla ib pb sb fb DN T7 IA PA SA HI HT IB8
              generalize A.length = N at *
              go_wp2_with fail
              obtain ⟨wo2, rfl⟩ : ∃ wo2, wo2 = wr := ⟨_, rfl⟩
              go_loopg [121] N (fun k i wr => ∃ q : Nat, k = N - q ∧ q ≤ N ∧ i = .int .i64 q ∧ Fr [] w8 wr)
              case atStart => exact ⟨0, rfl, by omega, rfl, Fr.refl [] _⟩
              case round =>
                obtain ⟨q, rfl, hq, rfl, hfq⟩ := hrel
                have HFQ := Lib.hid hfq
                clear hfq
                by_cases hlt : q < N
                · have d7 : decide (q < N) = true := decide_eq_true hlt
                  obtain ⟨g1, o1, rfl, _⟩ := IA8.out.at_ (by omega)
                  obtain ⟨g2, o2, rfl, _⟩ := IB9.out.at_ (by omega)
                  have x0 := cell_fr (IA8.out.cell hlt (r := 0) (by omega) rfl) HFQ.out
                  have x1 := cell_fr (IA8.out.cell hlt (r := 1) (by omega) rfl) HFQ.out
                  have x2 := cell_fr (IA8.out.cell hlt (r := 2) (by omega) rfl) HFQ.out
                  have y0 := cell_fr (IB9.out.cell hlt (r := 0) (by omega) rfl) HFQ.out
                  have y1 := cell_fr (IB9.out.cell hlt (r := 1) (by omega) rfl) HFQ.out
                  have y2 := cell_fr (IB9.out.cell hlt (r := 2) (by omega) rfl) HFQ.out
                  simp only [Nat.add_zero, ← Nat.add_assoc] at x0 x1 x2 y0 y1 y2
                  generalize DA.getD q default = x at x0 x1 x2 y0 y1 y2
                  go_wp2_with fail
                  go_quiet (fail)
                  go_wp2_with fail
                  go_roundg (N - (q + 1))
                  case measure => omega
                  case rel => exact ⟨q + 1, rfl, by omega, rfl, HFQ.out.drewN _⟩
                · have d7 : decide (q < N) = false := decide_eq_false hlt
                  have FF := Lib.hid (F8.out.trans HFQ.out (fun y hy => .inl hy))
                  clear hlt
                  go_wp2_with fail
                  go_ret
                  exact ⟨rfl, FF.out.nil_below⟩
end Go.Proofs.Ytpjmmhpkiepbmaa

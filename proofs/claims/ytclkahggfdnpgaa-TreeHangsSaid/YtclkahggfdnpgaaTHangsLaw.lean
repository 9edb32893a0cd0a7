/- A tree hangs together: the walk. (Printed by genhangs.py.) -/
import Derived.Test.YtclkahggfdnpgaaTr21
import Derived.Test.YtclkahggfdnpgaaTrH
set_option linter.unusedVariables false
set_option linter.unusedSimpArgs false
namespace Go.Proofs.Ytclkahggfdnpgaa
open Go.RowKit
set_option maxRecDepth 100000 in
set_option maxHeartbeats 4000000 in
theorem treeHangs_walk (p : ProgD) (a1 : Option Addr) (len1 cap1 : Nat) (L : List ActD) (W : World) (hp : ProgIn W p) (hL : ActsAt W a1 len1 L) :
    Calls Try.prog 10 #[p.val, .slice a1 len1 cap1] W fun e w' => e = .returned (.bool true) ∧ Below W.heap.size W w' := by
  have hr := (Fr.refl [] W).alloc (.cells #[.slice p.pa p.Fs.length p.pc, .slice p.ca p.Cs.length p.cc] 62)
  have HR := Lib.hid hr
  have RB := Lib.hid (Row.new W [.slice p.pa p.Fs.length p.pc, .slice p.ca p.Cs.length p.cc] 62)
  have HP := Lib.hid hp
  have HL := Lib.hid hL
  clear hp hL hr
  obtain ⟨pn, hpn⟩ : ∃ n, n = p.Fs.length := ⟨_, rfl⟩
  obtain ⟨cn, hcn⟩ : ∃ n, n = p.Cs.length := ⟨_, rfl⟩
  have hval : p.val = .agg #[.slice p.pa pn p.pc, .slice p.ca cn p.cc] := by rw [hpn, hcn]; rfl
  have HVAL := Lib.hid hval
  rw [hval]
  rw [← hpn, ← hcn] at HR RB
  clear hval hpn hcn
  go_enter Try.func10, Try.ntmps10
  go_wp2_with fail
  refine (awake19_any _).mono ?_
  rintro e w1 ⟨rfl, hF1⟩
  have F1 := Lib.hid (HR.out.trans hF1 (by simp))
  have RB1 := Lib.hid (RB.out.fr hF1 (by simp))
  have x0 := RB1.out.cell 0
  have x1 := RB1.out.cell 1
  clear hF1
  have C2 := large19_any p w1 (HP.out.fr F1.out)
  rw [HVAL.out] at C2
  go_wp2_with fail
  refine C2.mono ?_
  rintro e w2 ⟨rfl, hF2⟩
  have F2 := Lib.hid (F1.out.trans hF2 (by simp))
  have RB2 := Lib.hid (RB1.out.fr hF2 (by simp))
  have y0 := RB2.out.cell 0
  have y1 := RB2.out.cell 1
  clear hF2 C2 x0 x1 RB RB1 F1 HR
  by_cases hl : bigP p = true
  · rw [hl]
    go_wp2_with fail
    go_ret
    exact ⟨rfl, F2.out.nil_below⟩
  have hl : bigP p = false := by simpa using hl
  have PA := Lib.hid (HP.out.at_ hl)
  rw [hl]
  clear hl
  have C3 := new_is p w2 (PA.out.1.fr F2.out) PA.out.2
  rw [HVAL.out] at C3
  go_wp2_with fail
  refine C3.mono ?_
  rintro e w3 (⟨hm, rfl, hF⟩ | ⟨_, tb, hi, S0, rfl, hIS, hG, hS, hF⟩)
  · have F3 := Lib.hid (F2.out.trans hF (by simp))
    have RB3 := Lib.hid (RB2.out.fr hF (by simp))
    have z0 := RB3.out.cell 0
    have z1 := RB3.out.cell 1
    have C4 := may_any p w3 (PA.out.1.fr F3.out)
    rw [HVAL.out, hm] at C4
    clear hF C3 y0 y1 hm
    go_wp2_with fail
    refine C4.mono ?_
    rintro e w4 ⟨rfl, hF⟩
    have F4 := Lib.hid (F3.out.trans hF (by simp))
    clear hF C4
    go_wp2_with fail
    go_ret
    exact ⟨rfl, F4.out.nil_below⟩
  have F3 := Lib.hid (F2.out.trans hF (by simp))
  have RB3 := Lib.hid (RB2.out.fr hF (by simp))
  have IS0 := Lib.hid hIS
  have G := Lib.hid hG
  have HS0 := Lib.hid (fun y hy => Nat.le_trans F2.out.size (hS y hy) : ∀ y ∈ S0, W.heap.size ≤ y)
  clear hIS hG hS hF C3 y0 y1
  have HNX := Lib.hid (show (newPT p.Fs p.Cs).next = 1 from rfl)
  generalize newPT p.Fs p.Cs = P0 at IS0 G HNX
  have hN1 : P0.next = 1 := HNX.out
  go_wp2_with fail
  obtain ⟨N, hN⟩ : ∃ N, N = min len1 80 := ⟨_, rfl⟩
  have hN80 : N ≤ 80 := by omega
  have hNl : N ≤ len1 := by omega
  have HN := Lib.hid hN
  have HN1 := Lib.hid hN1
  clear hN hN1 HNX
  go_loopg [7, 8] N (fun k nx i wr => ∃ (j : Nat) (S : List Nat), k = N - j ∧ j ≤ N ∧ nx = .int .i64 ((runT P0 (L.take j)).next : Nat) ∧ i = .int .i64 j ∧ TreeIs wr tb hi S (runT P0 (L.take j)) ∧ (∀ y ∈ S, W.heap.size ≤ y) ∧ Fr [] W wr)
  case atStart => exact ⟨0, S0, rfl, by omega, by show _ = Value.int .i64 ((P0.next : Nat) : Int); rw [HN1.out]; rfl, rfl, IS0.out, HS0.out, F3.out⟩
  case round =>
    obtain ⟨j, S, rfl, hj, rfl, rfl, hIS, hS, hF⟩ := hrel
    have IS := Lib.hid hIS
    have HS := Lib.hid hS
    have F := Lib.hid hF
    clear hIS hS hF
    have GJ := Lib.hid ((runT_good G.out (L.take j)).mono (show 1 + (L.take j).length ≤ 81 by rw [List.length_take]; omega))
    by_cases hjn : j < N
    · have d1 : decide (j < len1) = true := decide_eq_true (by omega)
      have d2 : decide ((j : Int) < 80) = true := decide_eq_true (by omega)
      obtain ⟨gt, ot, ha, hgt, hct⟩ := (HL.out.rows.fr F.out).at_ (by omega)
      have hcx := hct j (by omega)
      have RS := Lib.hid (runT_succ P0 L j (by rw [HL.out.len]; omega))
      obtain ⟨x, hx⟩ : ∃ x, L.getD j default = x := ⟨_, rfl⟩
      rw [hx] at hcx RS
      have c0 : wr.cell? ⟨gt, ot + j * 3, none⟩ = some (.int .i64 x.k) := hcx 0 _ rfl
      have c1 : wr.cell? ⟨gt, ot + j * 3 + 1, none⟩ = some (.int .i64 x.id) := hcx 1 _ rfl
      have c2 : wr.cell? ⟨gt, ot + j * 3 + 2, none⟩ = some (.int .i64 x.at_) := hcx 2 _ rfl
      subst ha
      have GJ1 := Lib.hid ((runT_good G.out (L.take (j + 1))).mono (show 1 + (L.take (j + 1)).length ≤ 82 by rw [List.length_take]; omega))
      have HX := Lib.hid hx
      clear hct hcx hx
      have C5 := act_is IS.out GJ.out (by omega) x.k x.id x.at_
      have NX := Lib.hid (actF_next (P := runT P0 (L.take j)) (n := 0) x.k x.id x.at_)
      obtain ⟨Pn, hPn⟩ : ∃ n, (runT P0 (L.take j)).next = n := ⟨_, rfl⟩
      have hPn9 : Pn ≤ 81 := by rw [← hPn]; exact GJ.out.next
      rw [hPn] at NX ⊢
      obtain ⟨q, hq⟩ : ∃ q, actF (runT P0 (L.take j)) x.k x.id x.at_ = q := ⟨_, rfl⟩
      rw [hq] at C5 NX RS
      rw [← RS.out] at C5 NX
      obtain ⟨P, hP⟩ : ∃ P, runT P0 (L.take (j + 1)) = P := ⟨_, rfl⟩
      rw [hP] at C5 NX RS GJ1
      have HP1 := Lib.hid hP
      obtain ⟨q1, q2, q3⟩ := q
      simp only at C5 NX
      clear hPn hq hP RS
      have hgtl := hgt
      go_wp2_with fail
      refine C5.mono ?_
      rintro e w5 ⟨rfl, S', hIS, hF, hS⟩
      have IS5 := Lib.hid hIS
      have HS5 := Lib.hid (fun y hy => (by rcases hS y hy with h | h; exact HS.out y h; exact Nat.le_trans F.out.size h) : ∀ y ∈ S', W.heap.size ≤ y)
      have F5 := Lib.hid (F.out.trans hF (fun y hy => .inr (HS.out y hy)))
      clear hIS hF hS C5 c1 c2
      rcases NX.out with ⟨h1, h2, h3, h4, h5⟩ | ⟨h1, h2⟩
      · subst h1
        have g0 : decide (q1 ≥ 0) = true := decide_eq_true h2
        have g1 : (q1 != (Pn : Int)) = false := by rw [h3]; simp
        have g2 : decide (x.k > 1) = false := decide_eq_false (by omega)
        obtain ⟨gt', ot', ha', _, hct'⟩ := (HL.out.rows.fr F5.out).at_ (by omega)
        cases ha'
        have c3 : w5.cell? ⟨gt, ot + j * 3, none⟩ = some (.int .i64 (L.getD j default).k) := hct' j (by omega) 0 _ rfl
        rw [HX.out] at c3
        have H5 := Lib.hid h5
        have H3 := Lib.hid h3
        clear h2 h3 h4 h5 c0 NX hct'
        go_wp2_with fail
        have F5l := Lib.hid F5.out.size
        have C6 := live_is IS5.out
        go_wp2_with fail
        refine C6.mono ?_
        rintro e w6 ⟨av, cv, rfl, _, hI, hF⟩
        have LV := Lib.hid hI
        have F6 := Lib.hid (F5.out.trans hF (by simp))
        have IS6 := Lib.hid (IS5.out.fr hF)
        clear hF C6 hI
        obtain ⟨m, hm⟩ : ∃ m, m = P.L.length := ⟨_, rfl⟩
        have HM := Lib.hid hm
        have hm1 : 1 ≤ m := by obtain ⟨r0, r, hL, _⟩ := GJ1.out.root; rw [hm, hL]; simp
        have hm40 : m ≤ 40 := by rw [hm]; exact GJ1.out.len
        have hml : (P.L.map (·.id)).length = m := by rw [List.length_map, hm]
        rw [hml] at LV ⊢
        obtain ⟨vb, vo, rfl, hvb, hvc⟩ := LV.out.2.at_ (by omega)
        have V0 := Lib.hid (by
          have h0 := hvc 0 (by omega) 0 _ rfl
          obtain ⟨r0, r, hL, h1, _⟩ := GJ1.out.root
          rw [hL] at h0
          simp only [List.map_cons] at h0
          simpa [iv, h1] using h0 : w6.cell? ⟨vb, vo, none⟩ = some (.int .i64 0))
        have VC := Lib.hid (fun q (hq : q < m) => (by
          have h0 := hvc q hq 0 _ rfl
          have e : (P.L.map (·.id)).getD q default = (P.L.getD q default).id := by
            rw [List.getD_eq_getElem?_getD, List.getElem?_map, List.getD_eq_getElem?_getD, List.getElem?_eq_getElem (by rw [← hm]; exact hq)]
            rfl
          rw [e] at h0
          simpa [iv] using h0 : w6.cell? ⟨vb, vo + q, none⟩ = some (.int .i64 (P.L.getD q default).id)))
        have VS := Lib.hid (fun q (hq : q + 1 < m) => (by
          have h1 := (List.pairwise_iff_getElem.1 GJ1.out.srt) q (q + 1) (by rw [List.length_map, ← hm]; omega) (by rw [List.length_map, ← hm]; omega) (by omega)
          simp only [List.getElem_map] at h1
          rw [List.getD_eq_getElem?_getD, List.getD_eq_getElem?_getD, List.getElem?_eq_getElem (by rw [← hm]; omega), List.getElem?_eq_getElem (by rw [← hm]; omega)]
          exact h1 : (P.L.getD q default).id < (P.L.getD (q + 1) default).id))
        have e0 : decide (m < 1) = false := decide_eq_false (by omega)
        have e1 : decide ((m : Int) < 1) = false := decide_eq_false (by omega)
        have e2 : decide ((40 : Int) < (m : Int)) = false := decide_eq_false (by omega)
        have e3 : decide ((m : Int) > 40) = false := decide_eq_false (by omega)
        have v0 := V0.out
        clear hm hml hvc hvb
        go_wp2_with fail
        obtain ⟨wo, rfl⟩ : ∃ wo, wo = wr := ⟨_, rfl⟩
        go_loopg [12, 87] m (fun k sn i wr => ∃ q : Nat, k = m - q ∧ q ≤ m ∧ sn = .int .i64 (P.seen q : Nat) ∧ i = .int .i64 q ∧ Fr [] w6 wr)
        case atStart => exact ⟨0, rfl, by omega, rfl, rfl, Fr.refl _ _⟩
        case round =>
          obtain ⟨q, rfl, hq, rfl, rfl, hF⟩ := hrel
          have F7 := Lib.hid (F6.out.trans hF (by simp))
          have F67 := Lib.hid hF
          have IS7 := Lib.hid (IS6.out.fr hF)
          clear hF v0
          by_cases hqm : q < m
          · have f1 : decide (q < m) = true := decide_eq_true hqm
            have SS := Lib.hid (PT.seen_succ P q (by rw [← HM.out]; exact hqm))
            have hS40 : P.seen (q + 1) ≤ 40 := by
              have h1 := P.seen_le (q + 1)
              have h2 := GJ1.out.kids_all
              have h3 := GJ1.out.len
              omega
            have cq : wr.cell? ⟨vb, vo + q, none⟩ = some (.int .i64 (P.L.getD q default).id) := cell_fr' (VC.out q hqm) F67.out
            have hmem : P.L.getD q default ∈ P.L := getD_memD _ _ (by rw [← HM.out]; exact hqm)
            have hdep := GJ1.out.depth_ok (by omega) hmem
            have hkd : ∀ c ∈ (P.kids (P.L.getD q default).id (-1)).map (·.id), P.depth c = P.depth (P.L.getD q default).id + 1 := by
              intro c hc
              obtain ⟨z, hz, rfl⟩ := List.mem_map.1 hc
              have hz2 : z ∈ P.L ∧ z.par = (P.L.getD q default).id := by
                rw [GJ1.out.kids_filter hmem, List.mem_filter] at hz
                simpa using hz
              rw [GJ1.out.depth_step (by omega) hz2.1, hz2.2]
            have C7 := Lib.hid (fun w' (f : Fr [] wr w') => depth_is (IS7.out.fr f) GJ1.out (by omega) (P.L.getD q default).id)
            have C8 := Lib.hid (fun w' (f : Fr [] wr w') => children_is (IS7.out.fr f) (P.L.getD q default).id)
            have IDL := Lib.hid (show q = 0 ∨ ∃ k, q = k + 1 ∧ wr.cell? ⟨vb, vo + k, none⟩ = some (.int .i64 (P.L.getD k default).id) ∧ (P.L.getD k default).id < (P.L.getD q default).id by
              rcases q with _ | k
              · exact .inl rfl
              · exact .inr ⟨k, rfl, cell_fr' (VC.out k (by omega)) F67.out, VS.out k hqm⟩)
            have KD := Lib.hid hkd
            obtain ⟨id, hid⟩ : ∃ id, (P.L.getD q default).id = id := ⟨_, rfl⟩
            have hidr : 0 ≤ id ∧ id < 1000 := by
              have h1 := GJ1.out.lo _ hmem
              have h2 := GJ1.out.next
              rw [hid] at h1
              omega
            rw [hid] at cq hdep C7 C8 IDL KD SS
            obtain ⟨dd, hdd⟩ : ∃ d, P.depth id = d := ⟨_, rfl⟩
            rw [hdd] at hdep C7 KD
            obtain ⟨K, hK⟩ : ∃ K, (P.kids id (-1)).map (·.id) = K := ⟨_, rfl⟩
            have hKl : (P.kids id (-1)).length = K.length := by rw [← hK, List.length_map]
            rw [hK] at C8 KD
            rw [hKl] at SS
            obtain ⟨sq, hsq⟩ : ∃ s, P.seen q = s := ⟨_, rfl⟩
            rw [hsq] at SS ⊢
            rw [SS.out] at hS40
            obtain ⟨hd0, hd7, hdz⟩ := hdep
            have d3 : decide (dd < 0) = false := decide_eq_false (by omega)
            have d4 : decide (dd > 7) = false := decide_eq_false (by omega)
            obtain ⟨bz, hbz⟩ : ∃ b, (dd == 0) = b := ⟨_, rfl⟩
            have hbz2 : (id == 0) = bz := by
              rw [← hbz]
              by_cases h : id = 0
              · have hx : dd = 0 := hdz.2 h
                rw [h, hx]
              · have hx : ¬ dd = 0 := fun h2 => h (hdz.1 h2)
                rw [beq_eq_false_iff_ne.2 h, beq_eq_false_iff_ne.2 hx]
            clear hdz hid hdd hK hKl hsq hkd hmem
            rcases IDL.out with hq0 | ⟨k, hk, ck, hlt⟩
            · subst hq0
              have cq0 : wr.cell? ⟨vb, vo, none⟩ = some (.int .i64 id) := cq
              clear IDL cq
              go_wp2_with fail
              refine (C7.out _ (Fr.refl _ _)).mono ?_
              rintro e w8 ⟨rfl, hF⟩
              have H8 := Lib.hid hF
              clear hF
              go_wp2_with fail
              refine (C7.out _ H8.out).mono ?_
              rintro e w9 ⟨rfl, hF⟩
              have H9 := Lib.hid (H8.out.trans hF (by simp))
              clear hF
              go_wp2_with fail
              refine (C7.out _ H9.out).mono ?_
              rintro e w10 ⟨rfl, hF⟩
              have H10 := Lib.hid (H9.out.trans hF (by simp))
              clear hF
              go_wp2_with fail
              refine (C8.out _ H10.out).mono ?_
              rintro e w11 ⟨ak, ck2, rfl, _, hI, hF⟩
              have H11 := Lib.hid (H10.out.trans hF (by simp))
              have KI := Lib.hid hI
              clear hF hI
              obtain ⟨kn, hkn⟩ : ∃ k, k = K.length := ⟨_, rfl⟩
              rw [← hkn] at KI SS hS40 ⊢
              have HKN := Lib.hid hkn
              clear hkn
              go_wp2_with fail
              obtain ⟨wp, rfl⟩ : ∃ wp, wp = wr := ⟨_, rfl⟩
              go_loopg [12, 128] kn (fun k sn i wr => ∃ r : Nat, k = kn - r ∧ r ≤ kn ∧ sn = .int .i64 ((sq + r : Nat) : Int) ∧ i = .int .i64 r ∧ Fr [] w11 wr)
              case atStart => exact ⟨0, rfl, by omega, rfl, rfl, Fr.refl _ _⟩
              case round =>
                obtain ⟨r, rfl, hr, rfl, rfl, hF⟩ := hrel
                have J1 := Lib.hid (H11.out.trans hF (by simp))
                have J2 := Lib.hid hF
                by_cases hrk : r < kn
                · have f2 : decide (r < kn) = true := decide_eq_true hrk
                  obtain ⟨kb, ko, rfl, hkb, hkc⟩ := (KI.out.fr hF).2.at_ (by omega)
                  have kc := hkc r hrk 0 _ rfl
                  have hchild := KD.out (K.getD r default) (getD_memD _ _ (by rw [← HKN.out]; exact hrk))
                  obtain ⟨ch, hch⟩ : ∃ c, K.getD r default = c := ⟨_, rfl⟩
                  rw [hch] at kc hchild
                  have kc' : wr.cell? ⟨kb, ko + r, none⟩ = some (.int .i64 ch) := by simpa [iv] using kc
                  have C9 := depth_is (IS7.out.fr J1.out) GJ1.out (by omega) ch
                  rw [hchild] at C9
                  have C10 := Lib.hid (fun w' (f : Fr [] wr w') => C7.out w' (J1.out.trans f (by simp)))
                  clear hF kc hkc hkb hch hchild
                  go_wp2_with fail
                  refine C9.mono ?_
                  rintro e w12 ⟨rfl, hF⟩
                  have H12 := Lib.hid hF
                  clear hF C9
                  go_wp2_with fail
                  refine (C10.out _ H12.out).mono ?_
                  rintro e w13 ⟨rfl, hF⟩
                  have J3 := Lib.hid ((J2.out.trans H12.out (by simp)).trans hF (by simp))
                  have g6 : ((dd + 1) != (dd + 1)) = false := by simp
                  clear hF C10
                  go_wp2_with fail
                  go_roundg (kn - (r + 1))
                  case measure => omega
                  case rel => exact ⟨r + 1, rfl, by omega, by congr 1, rfl, J3.out⟩
                · have f2 : decide (r < kn) = false := decide_eq_false hrk
                  obtain rfl : r = kn := by omega
                  clear hF hrk
                  go_wp2_with fail
                  go_roundg (m - (0 + 1))
                  case measure => omega
                  case rel => exact ⟨0 + 1, rfl, by omega, by rw [SS.out], by first | rfl | (congr 1), F67.out.trans J1.out (by simp)⟩
            · subst hk
              have d5 : decide (((k + 1 : Nat) : Int) > 0) = true := decide_eq_true (by omega)
              have d5' : decide (0 < ((k + 1 : Nat) : Int)) = true := decide_eq_true (by omega)
              have d5'' : decide ((0 : Int) < (k : Int) + 1) = true := decide_eq_true (by omega)
              obtain ⟨ik, hik⟩ : ∃ i, (P.L.getD k default).id = i := ⟨_, rfl⟩
              rw [hik] at ck hlt
              have d6 : decide (ik ≥ id) = false := decide_eq_false (by omega)
              have d7 : decide ((k : Int) + 1 < (m : Int)) = true := decide_eq_true (by omega)
              have cq0 : wr.cell? ⟨vb, vo + (k + 1), none⟩ = some (.int .i64 id) := cq
              clear IDL hlt hik cq
              go_wp2_with fail
              refine (C7.out _ (Fr.refl _ _)).mono ?_
              rintro e w8 ⟨rfl, hF⟩
              have H8 := Lib.hid hF
              clear hF
              go_wp2_with fail
              refine (C7.out _ H8.out).mono ?_
              rintro e w9 ⟨rfl, hF⟩
              have H9 := Lib.hid (H8.out.trans hF (by simp))
              clear hF
              go_wp2_with fail
              refine (C7.out _ H9.out).mono ?_
              rintro e w10 ⟨rfl, hF⟩
              have H10 := Lib.hid (H9.out.trans hF (by simp))
              clear hF
              go_wp2_with fail
              refine (C8.out _ H10.out).mono ?_
              rintro e w11 ⟨ak, ck2, rfl, _, hI, hF⟩
              have H11 := Lib.hid (H10.out.trans hF (by simp))
              have KI := Lib.hid hI
              clear hF hI
              obtain ⟨kn, hkn⟩ : ∃ k, k = K.length := ⟨_, rfl⟩
              rw [← hkn] at KI SS hS40 ⊢
              have HKN := Lib.hid hkn
              clear hkn
              go_wp2_with fail
              obtain ⟨wp, rfl⟩ : ∃ wp, wp = wr := ⟨_, rfl⟩
              go_loopg [12, 128] kn (fun k sn i wr => ∃ r : Nat, k = kn - r ∧ r ≤ kn ∧ sn = .int .i64 ((sq + r : Nat) : Int) ∧ i = .int .i64 r ∧ Fr [] w11 wr)
              case atStart => exact ⟨0, rfl, by omega, rfl, rfl, Fr.refl _ _⟩
              case round =>
                obtain ⟨r, rfl, hr, rfl, rfl, hF⟩ := hrel
                have J1 := Lib.hid (H11.out.trans hF (by simp))
                have J2 := Lib.hid hF
                by_cases hrk : r < kn
                · have f2 : decide (r < kn) = true := decide_eq_true hrk
                  obtain ⟨kb, ko, rfl, hkb, hkc⟩ := (KI.out.fr hF).2.at_ (by omega)
                  have kc := hkc r hrk 0 _ rfl
                  have hchild := KD.out (K.getD r default) (getD_memD _ _ (by rw [← HKN.out]; exact hrk))
                  obtain ⟨ch, hch⟩ : ∃ c, K.getD r default = c := ⟨_, rfl⟩
                  rw [hch] at kc hchild
                  have kc' : wr.cell? ⟨kb, ko + r, none⟩ = some (.int .i64 ch) := by simpa [iv] using kc
                  have C9 := depth_is (IS7.out.fr J1.out) GJ1.out (by omega) ch
                  rw [hchild] at C9
                  have C10 := Lib.hid (fun w' (f : Fr [] wr w') => C7.out w' (J1.out.trans f (by simp)))
                  clear hF kc hkc hkb hch hchild
                  go_wp2_with fail
                  refine C9.mono ?_
                  rintro e w12 ⟨rfl, hF⟩
                  have H12 := Lib.hid hF
                  clear hF C9
                  go_wp2_with fail
                  refine (C10.out _ H12.out).mono ?_
                  rintro e w13 ⟨rfl, hF⟩
                  have J3 := Lib.hid ((J2.out.trans H12.out (by simp)).trans hF (by simp))
                  have g6 : ((dd + 1) != (dd + 1)) = false := by simp
                  clear hF C10
                  go_wp2_with fail
                  go_roundg (kn - (r + 1))
                  case measure => omega
                  case rel => exact ⟨r + 1, rfl, by omega, by congr 1, rfl, J3.out⟩
                · have f2 : decide (r < kn) = false := decide_eq_false hrk
                  obtain rfl : r = kn := by omega
                  clear hF hrk
                  go_wp2_with fail
                  go_roundg (m - ((k + 1) + 1))
                  case measure => omega
                  case rel => exact ⟨(k + 1) + 1, rfl, by omega, by rw [SS.out], by first | rfl | (congr 1), F67.out.trans J1.out (by simp)⟩

          · have f1 : decide (q < m) = false := decide_eq_false hqm
            obtain rfl : q = m := by omega
            have hsall : ((P.seen q : Nat) : Int) = (q : Int) - 1 := by
              have := GJ1.out.seen_all
              rw [← HM.out] at this
              omega
            rw [hsall]
            have g5 : (((q : Int) - 1) != ((q : Int) - 1)) = false := by simp
            clear hsall hqm
            go_wp2_with fail
            go_roundg (N - (j + 1))
            case measure => omega
            case rel => exact ⟨j + 1, S', rfl, by omega, by rw [HP1.out, H5.out]; rfl, rfl, by rw [HP1.out]; exact IS7.out, HS5.out, F7.out⟩
      · have H2 := Lib.hid h2
        clear h2 NX c0
        by_cases he : q2 = 0
        · subst he
          have hq1 : q1 = -1 := by rcases h1 with h1 | h1; exact absurd rfl h1; exact h1
          subst hq1
          clear h1
          go_wp2_with fail
          have F5l := Lib.hid F5.out.size
          have C6 := live_is IS5.out
          go_wp2_with fail
          refine C6.mono ?_
          rintro e w6 ⟨av, cv, rfl, _, hI, hF⟩
          have LV := Lib.hid hI
          have F6 := Lib.hid (F5.out.trans hF (by simp))
          have IS6 := Lib.hid (IS5.out.fr hF)
          clear hF C6 hI
          obtain ⟨m, hm⟩ : ∃ m, m = P.L.length := ⟨_, rfl⟩
          have HM := Lib.hid hm
          have hm1 : 1 ≤ m := by obtain ⟨r0, r, hL, _⟩ := GJ1.out.root; rw [hm, hL]; simp
          have hm40 : m ≤ 40 := by rw [hm]; exact GJ1.out.len
          have hml : (P.L.map (·.id)).length = m := by rw [List.length_map, hm]
          rw [hml] at LV ⊢
          obtain ⟨vb, vo, rfl, hvb, hvc⟩ := LV.out.2.at_ (by omega)
          have V0 := Lib.hid (by
            have h0 := hvc 0 (by omega) 0 _ rfl
            obtain ⟨r0, r, hL, h1, _⟩ := GJ1.out.root
            rw [hL] at h0
            simp only [List.map_cons] at h0
            simpa [iv, h1] using h0 : w6.cell? ⟨vb, vo, none⟩ = some (.int .i64 0))
          have VC := Lib.hid (fun q (hq : q < m) => (by
            have h0 := hvc q hq 0 _ rfl
            have e : (P.L.map (·.id)).getD q default = (P.L.getD q default).id := by
              rw [List.getD_eq_getElem?_getD, List.getElem?_map, List.getD_eq_getElem?_getD, List.getElem?_eq_getElem (by rw [← hm]; exact hq)]
              rfl
            rw [e] at h0
            simpa [iv] using h0 : w6.cell? ⟨vb, vo + q, none⟩ = some (.int .i64 (P.L.getD q default).id)))
          have VS := Lib.hid (fun q (hq : q + 1 < m) => (by
            have h1 := (List.pairwise_iff_getElem.1 GJ1.out.srt) q (q + 1) (by rw [List.length_map, ← hm]; omega) (by rw [List.length_map, ← hm]; omega) (by omega)
            simp only [List.getElem_map] at h1
            rw [List.getD_eq_getElem?_getD, List.getD_eq_getElem?_getD, List.getElem?_eq_getElem (by rw [← hm]; omega), List.getElem?_eq_getElem (by rw [← hm]; omega)]
            exact h1 : (P.L.getD q default).id < (P.L.getD (q + 1) default).id))
          have e0 : decide (m < 1) = false := decide_eq_false (by omega)
          have e1 : decide ((m : Int) < 1) = false := decide_eq_false (by omega)
          have e2 : decide ((40 : Int) < (m : Int)) = false := decide_eq_false (by omega)
          have e3 : decide ((m : Int) > 40) = false := decide_eq_false (by omega)
          have v0 := V0.out
          clear hm hml hvc hvb
          go_wp2_with fail
          obtain ⟨wo, rfl⟩ : ∃ wo, wo = wr := ⟨_, rfl⟩
          go_loopg [12, 87] m (fun k sn i wr => ∃ q : Nat, k = m - q ∧ q ≤ m ∧ sn = .int .i64 (P.seen q : Nat) ∧ i = .int .i64 q ∧ Fr [] w6 wr)
          case atStart => exact ⟨0, rfl, by omega, rfl, rfl, Fr.refl _ _⟩
          case round =>
            obtain ⟨q, rfl, hq, rfl, rfl, hF⟩ := hrel
            have F7 := Lib.hid (F6.out.trans hF (by simp))
            have F67 := Lib.hid hF
            have IS7 := Lib.hid (IS6.out.fr hF)
            clear hF v0
            by_cases hqm : q < m
            · have f1 : decide (q < m) = true := decide_eq_true hqm
              have SS := Lib.hid (PT.seen_succ P q (by rw [← HM.out]; exact hqm))
              have hS40 : P.seen (q + 1) ≤ 40 := by
                have h1 := P.seen_le (q + 1)
                have h2 := GJ1.out.kids_all
                have h3 := GJ1.out.len
                omega
              have cq : wr.cell? ⟨vb, vo + q, none⟩ = some (.int .i64 (P.L.getD q default).id) := cell_fr' (VC.out q hqm) F67.out
              have hmem : P.L.getD q default ∈ P.L := getD_memD _ _ (by rw [← HM.out]; exact hqm)
              have hdep := GJ1.out.depth_ok (by omega) hmem
              have hkd : ∀ c ∈ (P.kids (P.L.getD q default).id (-1)).map (·.id), P.depth c = P.depth (P.L.getD q default).id + 1 := by
                intro c hc
                obtain ⟨z, hz, rfl⟩ := List.mem_map.1 hc
                have hz2 : z ∈ P.L ∧ z.par = (P.L.getD q default).id := by
                  rw [GJ1.out.kids_filter hmem, List.mem_filter] at hz
                  simpa using hz
                rw [GJ1.out.depth_step (by omega) hz2.1, hz2.2]
              have C7 := Lib.hid (fun w' (f : Fr [] wr w') => depth_is (IS7.out.fr f) GJ1.out (by omega) (P.L.getD q default).id)
              have C8 := Lib.hid (fun w' (f : Fr [] wr w') => children_is (IS7.out.fr f) (P.L.getD q default).id)
              have IDL := Lib.hid (show q = 0 ∨ ∃ k, q = k + 1 ∧ wr.cell? ⟨vb, vo + k, none⟩ = some (.int .i64 (P.L.getD k default).id) ∧ (P.L.getD k default).id < (P.L.getD q default).id by
                rcases q with _ | k
                · exact .inl rfl
                · exact .inr ⟨k, rfl, cell_fr' (VC.out k (by omega)) F67.out, VS.out k hqm⟩)
              have KD := Lib.hid hkd
              obtain ⟨id, hid⟩ : ∃ id, (P.L.getD q default).id = id := ⟨_, rfl⟩
              have hidr : 0 ≤ id ∧ id < 1000 := by
                have h1 := GJ1.out.lo _ hmem
                have h2 := GJ1.out.next
                rw [hid] at h1
                omega
              rw [hid] at cq hdep C7 C8 IDL KD SS
              obtain ⟨dd, hdd⟩ : ∃ d, P.depth id = d := ⟨_, rfl⟩
              rw [hdd] at hdep C7 KD
              obtain ⟨K, hK⟩ : ∃ K, (P.kids id (-1)).map (·.id) = K := ⟨_, rfl⟩
              have hKl : (P.kids id (-1)).length = K.length := by rw [← hK, List.length_map]
              rw [hK] at C8 KD
              rw [hKl] at SS
              obtain ⟨sq, hsq⟩ : ∃ s, P.seen q = s := ⟨_, rfl⟩
              rw [hsq] at SS ⊢
              rw [SS.out] at hS40
              obtain ⟨hd0, hd7, hdz⟩ := hdep
              have d3 : decide (dd < 0) = false := decide_eq_false (by omega)
              have d4 : decide (dd > 7) = false := decide_eq_false (by omega)
              obtain ⟨bz, hbz⟩ : ∃ b, (dd == 0) = b := ⟨_, rfl⟩
              have hbz2 : (id == 0) = bz := by
                rw [← hbz]
                by_cases h : id = 0
                · have hx : dd = 0 := hdz.2 h
                  rw [h, hx]
                · have hx : ¬ dd = 0 := fun h2 => h (hdz.1 h2)
                  rw [beq_eq_false_iff_ne.2 h, beq_eq_false_iff_ne.2 hx]
              clear hdz hid hdd hK hKl hsq hkd hmem
              rcases IDL.out with hq0 | ⟨k, hk, ck, hlt⟩
              · subst hq0
                have cq0 : wr.cell? ⟨vb, vo, none⟩ = some (.int .i64 id) := cq
                clear IDL cq
                go_wp2_with fail
                refine (C7.out _ (Fr.refl _ _)).mono ?_
                rintro e w8 ⟨rfl, hF⟩
                have H8 := Lib.hid hF
                clear hF
                go_wp2_with fail
                refine (C7.out _ H8.out).mono ?_
                rintro e w9 ⟨rfl, hF⟩
                have H9 := Lib.hid (H8.out.trans hF (by simp))
                clear hF
                go_wp2_with fail
                refine (C7.out _ H9.out).mono ?_
                rintro e w10 ⟨rfl, hF⟩
                have H10 := Lib.hid (H9.out.trans hF (by simp))
                clear hF
                go_wp2_with fail
                refine (C8.out _ H10.out).mono ?_
                rintro e w11 ⟨ak, ck2, rfl, _, hI, hF⟩
                have H11 := Lib.hid (H10.out.trans hF (by simp))
                have KI := Lib.hid hI
                clear hF hI
                obtain ⟨kn, hkn⟩ : ∃ k, k = K.length := ⟨_, rfl⟩
                rw [← hkn] at KI SS hS40 ⊢
                have HKN := Lib.hid hkn
                clear hkn
                go_wp2_with fail
                obtain ⟨wp, rfl⟩ : ∃ wp, wp = wr := ⟨_, rfl⟩
                go_loopg [12, 128] kn (fun k sn i wr => ∃ r : Nat, k = kn - r ∧ r ≤ kn ∧ sn = .int .i64 ((sq + r : Nat) : Int) ∧ i = .int .i64 r ∧ Fr [] w11 wr)
                case atStart => exact ⟨0, rfl, by omega, rfl, rfl, Fr.refl _ _⟩
                case round =>
                  obtain ⟨r, rfl, hr, rfl, rfl, hF⟩ := hrel
                  have J1 := Lib.hid (H11.out.trans hF (by simp))
                  have J2 := Lib.hid hF
                  by_cases hrk : r < kn
                  · have f2 : decide (r < kn) = true := decide_eq_true hrk
                    obtain ⟨kb, ko, rfl, hkb, hkc⟩ := (KI.out.fr hF).2.at_ (by omega)
                    have kc := hkc r hrk 0 _ rfl
                    have hchild := KD.out (K.getD r default) (getD_memD _ _ (by rw [← HKN.out]; exact hrk))
                    obtain ⟨ch, hch⟩ : ∃ c, K.getD r default = c := ⟨_, rfl⟩
                    rw [hch] at kc hchild
                    have kc' : wr.cell? ⟨kb, ko + r, none⟩ = some (.int .i64 ch) := by simpa [iv] using kc
                    have C9 := depth_is (IS7.out.fr J1.out) GJ1.out (by omega) ch
                    rw [hchild] at C9
                    have C10 := Lib.hid (fun w' (f : Fr [] wr w') => C7.out w' (J1.out.trans f (by simp)))
                    clear hF kc hkc hkb hch hchild
                    go_wp2_with fail
                    refine C9.mono ?_
                    rintro e w12 ⟨rfl, hF⟩
                    have H12 := Lib.hid hF
                    clear hF C9
                    go_wp2_with fail
                    refine (C10.out _ H12.out).mono ?_
                    rintro e w13 ⟨rfl, hF⟩
                    have J3 := Lib.hid ((J2.out.trans H12.out (by simp)).trans hF (by simp))
                    have g6 : ((dd + 1) != (dd + 1)) = false := by simp
                    clear hF C10
                    go_wp2_with fail
                    go_roundg (kn - (r + 1))
                    case measure => omega
                    case rel => exact ⟨r + 1, rfl, by omega, by congr 1, rfl, J3.out⟩
                  · have f2 : decide (r < kn) = false := decide_eq_false hrk
                    obtain rfl : r = kn := by omega
                    clear hF hrk
                    go_wp2_with fail
                    go_roundg (m - (0 + 1))
                    case measure => omega
                    case rel => exact ⟨0 + 1, rfl, by omega, by rw [SS.out], by first | rfl | (congr 1), F67.out.trans J1.out (by simp)⟩
              · subst hk
                have d5 : decide (((k + 1 : Nat) : Int) > 0) = true := decide_eq_true (by omega)
                have d5' : decide (0 < ((k + 1 : Nat) : Int)) = true := decide_eq_true (by omega)
                have d5'' : decide ((0 : Int) < (k : Int) + 1) = true := decide_eq_true (by omega)
                obtain ⟨ik, hik⟩ : ∃ i, (P.L.getD k default).id = i := ⟨_, rfl⟩
                rw [hik] at ck hlt
                have d6 : decide (ik ≥ id) = false := decide_eq_false (by omega)
                have d7 : decide ((k : Int) + 1 < (m : Int)) = true := decide_eq_true (by omega)
                have cq0 : wr.cell? ⟨vb, vo + (k + 1), none⟩ = some (.int .i64 id) := cq
                clear IDL hlt hik cq
                go_wp2_with fail
                refine (C7.out _ (Fr.refl _ _)).mono ?_
                rintro e w8 ⟨rfl, hF⟩
                have H8 := Lib.hid hF
                clear hF
                go_wp2_with fail
                refine (C7.out _ H8.out).mono ?_
                rintro e w9 ⟨rfl, hF⟩
                have H9 := Lib.hid (H8.out.trans hF (by simp))
                clear hF
                go_wp2_with fail
                refine (C7.out _ H9.out).mono ?_
                rintro e w10 ⟨rfl, hF⟩
                have H10 := Lib.hid (H9.out.trans hF (by simp))
                clear hF
                go_wp2_with fail
                refine (C8.out _ H10.out).mono ?_
                rintro e w11 ⟨ak, ck2, rfl, _, hI, hF⟩
                have H11 := Lib.hid (H10.out.trans hF (by simp))
                have KI := Lib.hid hI
                clear hF hI
                obtain ⟨kn, hkn⟩ : ∃ k, k = K.length := ⟨_, rfl⟩
                rw [← hkn] at KI SS hS40 ⊢
                have HKN := Lib.hid hkn
                clear hkn
                go_wp2_with fail
                obtain ⟨wp, rfl⟩ : ∃ wp, wp = wr := ⟨_, rfl⟩
                go_loopg [12, 128] kn (fun k sn i wr => ∃ r : Nat, k = kn - r ∧ r ≤ kn ∧ sn = .int .i64 ((sq + r : Nat) : Int) ∧ i = .int .i64 r ∧ Fr [] w11 wr)
                case atStart => exact ⟨0, rfl, by omega, rfl, rfl, Fr.refl _ _⟩
                case round =>
                  obtain ⟨r, rfl, hr, rfl, rfl, hF⟩ := hrel
                  have J1 := Lib.hid (H11.out.trans hF (by simp))
                  have J2 := Lib.hid hF
                  by_cases hrk : r < kn
                  · have f2 : decide (r < kn) = true := decide_eq_true hrk
                    obtain ⟨kb, ko, rfl, hkb, hkc⟩ := (KI.out.fr hF).2.at_ (by omega)
                    have kc := hkc r hrk 0 _ rfl
                    have hchild := KD.out (K.getD r default) (getD_memD _ _ (by rw [← HKN.out]; exact hrk))
                    obtain ⟨ch, hch⟩ : ∃ c, K.getD r default = c := ⟨_, rfl⟩
                    rw [hch] at kc hchild
                    have kc' : wr.cell? ⟨kb, ko + r, none⟩ = some (.int .i64 ch) := by simpa [iv] using kc
                    have C9 := depth_is (IS7.out.fr J1.out) GJ1.out (by omega) ch
                    rw [hchild] at C9
                    have C10 := Lib.hid (fun w' (f : Fr [] wr w') => C7.out w' (J1.out.trans f (by simp)))
                    clear hF kc hkc hkb hch hchild
                    go_wp2_with fail
                    refine C9.mono ?_
                    rintro e w12 ⟨rfl, hF⟩
                    have H12 := Lib.hid hF
                    clear hF C9
                    go_wp2_with fail
                    refine (C10.out _ H12.out).mono ?_
                    rintro e w13 ⟨rfl, hF⟩
                    have J3 := Lib.hid ((J2.out.trans H12.out (by simp)).trans hF (by simp))
                    have g6 : ((dd + 1) != (dd + 1)) = false := by simp
                    clear hF C10
                    go_wp2_with fail
                    go_roundg (kn - (r + 1))
                    case measure => omega
                    case rel => exact ⟨r + 1, rfl, by omega, by congr 1, rfl, J3.out⟩
                  · have f2 : decide (r < kn) = false := decide_eq_false hrk
                    obtain rfl : r = kn := by omega
                    clear hF hrk
                    go_wp2_with fail
                    go_roundg (m - ((k + 1) + 1))
                    case measure => omega
                    case rel => exact ⟨(k + 1) + 1, rfl, by omega, by rw [SS.out], by first | rfl | (congr 1), F67.out.trans J1.out (by simp)⟩

            · have f1 : decide (q < m) = false := decide_eq_false hqm
              obtain rfl : q = m := by omega
              have hsall : ((P.seen q : Nat) : Int) = (q : Int) - 1 := by
                have := GJ1.out.seen_all
                rw [← HM.out] at this
                omega
              rw [hsall]
              have g5 : (((q : Int) - 1) != ((q : Int) - 1)) = false := by simp
              clear hsall hqm
              go_wp2_with fail
              go_roundg (N - (j + 1))
              case measure => omega
              case rel => exact ⟨j + 1, S', rfl, by omega, by rw [HP1.out, H2.out], rfl, by rw [HP1.out]; exact IS7.out, HS5.out, F7.out⟩
        · have g0 : (q2 == 0) = false := by simpa using he
          clear h1 he
          go_wp2_with fail
          have F5l := Lib.hid F5.out.size
          have C6 := live_is IS5.out
          go_wp2_with fail
          refine C6.mono ?_
          rintro e w6 ⟨av, cv, rfl, _, hI, hF⟩
          have LV := Lib.hid hI
          have F6 := Lib.hid (F5.out.trans hF (by simp))
          have IS6 := Lib.hid (IS5.out.fr hF)
          clear hF C6 hI
          obtain ⟨m, hm⟩ : ∃ m, m = P.L.length := ⟨_, rfl⟩
          have HM := Lib.hid hm
          have hm1 : 1 ≤ m := by obtain ⟨r0, r, hL, _⟩ := GJ1.out.root; rw [hm, hL]; simp
          have hm40 : m ≤ 40 := by rw [hm]; exact GJ1.out.len
          have hml : (P.L.map (·.id)).length = m := by rw [List.length_map, hm]
          rw [hml] at LV ⊢
          obtain ⟨vb, vo, rfl, hvb, hvc⟩ := LV.out.2.at_ (by omega)
          have V0 := Lib.hid (by
            have h0 := hvc 0 (by omega) 0 _ rfl
            obtain ⟨r0, r, hL, h1, _⟩ := GJ1.out.root
            rw [hL] at h0
            simp only [List.map_cons] at h0
            simpa [iv, h1] using h0 : w6.cell? ⟨vb, vo, none⟩ = some (.int .i64 0))
          have VC := Lib.hid (fun q (hq : q < m) => (by
            have h0 := hvc q hq 0 _ rfl
            have e : (P.L.map (·.id)).getD q default = (P.L.getD q default).id := by
              rw [List.getD_eq_getElem?_getD, List.getElem?_map, List.getD_eq_getElem?_getD, List.getElem?_eq_getElem (by rw [← hm]; exact hq)]
              rfl
            rw [e] at h0
            simpa [iv] using h0 : w6.cell? ⟨vb, vo + q, none⟩ = some (.int .i64 (P.L.getD q default).id)))
          have VS := Lib.hid (fun q (hq : q + 1 < m) => (by
            have h1 := (List.pairwise_iff_getElem.1 GJ1.out.srt) q (q + 1) (by rw [List.length_map, ← hm]; omega) (by rw [List.length_map, ← hm]; omega) (by omega)
            simp only [List.getElem_map] at h1
            rw [List.getD_eq_getElem?_getD, List.getD_eq_getElem?_getD, List.getElem?_eq_getElem (by rw [← hm]; omega), List.getElem?_eq_getElem (by rw [← hm]; omega)]
            exact h1 : (P.L.getD q default).id < (P.L.getD (q + 1) default).id))
          have e0 : decide (m < 1) = false := decide_eq_false (by omega)
          have e1 : decide ((m : Int) < 1) = false := decide_eq_false (by omega)
          have e2 : decide ((40 : Int) < (m : Int)) = false := decide_eq_false (by omega)
          have e3 : decide ((m : Int) > 40) = false := decide_eq_false (by omega)
          have v0 := V0.out
          clear hm hml hvc hvb
          go_wp2_with fail
          obtain ⟨wo, rfl⟩ : ∃ wo, wo = wr := ⟨_, rfl⟩
          go_loopg [12, 87] m (fun k sn i wr => ∃ q : Nat, k = m - q ∧ q ≤ m ∧ sn = .int .i64 (P.seen q : Nat) ∧ i = .int .i64 q ∧ Fr [] w6 wr)
          case atStart => exact ⟨0, rfl, by omega, rfl, rfl, Fr.refl _ _⟩
          case round =>
            obtain ⟨q, rfl, hq, rfl, rfl, hF⟩ := hrel
            have F7 := Lib.hid (F6.out.trans hF (by simp))
            have F67 := Lib.hid hF
            have IS7 := Lib.hid (IS6.out.fr hF)
            clear hF v0
            by_cases hqm : q < m
            · have f1 : decide (q < m) = true := decide_eq_true hqm
              have SS := Lib.hid (PT.seen_succ P q (by rw [← HM.out]; exact hqm))
              have hS40 : P.seen (q + 1) ≤ 40 := by
                have h1 := P.seen_le (q + 1)
                have h2 := GJ1.out.kids_all
                have h3 := GJ1.out.len
                omega
              have cq : wr.cell? ⟨vb, vo + q, none⟩ = some (.int .i64 (P.L.getD q default).id) := cell_fr' (VC.out q hqm) F67.out
              have hmem : P.L.getD q default ∈ P.L := getD_memD _ _ (by rw [← HM.out]; exact hqm)
              have hdep := GJ1.out.depth_ok (by omega) hmem
              have hkd : ∀ c ∈ (P.kids (P.L.getD q default).id (-1)).map (·.id), P.depth c = P.depth (P.L.getD q default).id + 1 := by
                intro c hc
                obtain ⟨z, hz, rfl⟩ := List.mem_map.1 hc
                have hz2 : z ∈ P.L ∧ z.par = (P.L.getD q default).id := by
                  rw [GJ1.out.kids_filter hmem, List.mem_filter] at hz
                  simpa using hz
                rw [GJ1.out.depth_step (by omega) hz2.1, hz2.2]
              have C7 := Lib.hid (fun w' (f : Fr [] wr w') => depth_is (IS7.out.fr f) GJ1.out (by omega) (P.L.getD q default).id)
              have C8 := Lib.hid (fun w' (f : Fr [] wr w') => children_is (IS7.out.fr f) (P.L.getD q default).id)
              have IDL := Lib.hid (show q = 0 ∨ ∃ k, q = k + 1 ∧ wr.cell? ⟨vb, vo + k, none⟩ = some (.int .i64 (P.L.getD k default).id) ∧ (P.L.getD k default).id < (P.L.getD q default).id by
                rcases q with _ | k
                · exact .inl rfl
                · exact .inr ⟨k, rfl, cell_fr' (VC.out k (by omega)) F67.out, VS.out k hqm⟩)
              have KD := Lib.hid hkd
              obtain ⟨id, hid⟩ : ∃ id, (P.L.getD q default).id = id := ⟨_, rfl⟩
              have hidr : 0 ≤ id ∧ id < 1000 := by
                have h1 := GJ1.out.lo _ hmem
                have h2 := GJ1.out.next
                rw [hid] at h1
                omega
              rw [hid] at cq hdep C7 C8 IDL KD SS
              obtain ⟨dd, hdd⟩ : ∃ d, P.depth id = d := ⟨_, rfl⟩
              rw [hdd] at hdep C7 KD
              obtain ⟨K, hK⟩ : ∃ K, (P.kids id (-1)).map (·.id) = K := ⟨_, rfl⟩
              have hKl : (P.kids id (-1)).length = K.length := by rw [← hK, List.length_map]
              rw [hK] at C8 KD
              rw [hKl] at SS
              obtain ⟨sq, hsq⟩ : ∃ s, P.seen q = s := ⟨_, rfl⟩
              rw [hsq] at SS ⊢
              rw [SS.out] at hS40
              obtain ⟨hd0, hd7, hdz⟩ := hdep
              have d3 : decide (dd < 0) = false := decide_eq_false (by omega)
              have d4 : decide (dd > 7) = false := decide_eq_false (by omega)
              obtain ⟨bz, hbz⟩ : ∃ b, (dd == 0) = b := ⟨_, rfl⟩
              have hbz2 : (id == 0) = bz := by
                rw [← hbz]
                by_cases h : id = 0
                · have hx : dd = 0 := hdz.2 h
                  rw [h, hx]
                · have hx : ¬ dd = 0 := fun h2 => h (hdz.1 h2)
                  rw [beq_eq_false_iff_ne.2 h, beq_eq_false_iff_ne.2 hx]
              clear hdz hid hdd hK hKl hsq hkd hmem
              rcases IDL.out with hq0 | ⟨k, hk, ck, hlt⟩
              · subst hq0
                have cq0 : wr.cell? ⟨vb, vo, none⟩ = some (.int .i64 id) := cq
                clear IDL cq
                go_wp2_with fail
                refine (C7.out _ (Fr.refl _ _)).mono ?_
                rintro e w8 ⟨rfl, hF⟩
                have H8 := Lib.hid hF
                clear hF
                go_wp2_with fail
                refine (C7.out _ H8.out).mono ?_
                rintro e w9 ⟨rfl, hF⟩
                have H9 := Lib.hid (H8.out.trans hF (by simp))
                clear hF
                go_wp2_with fail
                refine (C7.out _ H9.out).mono ?_
                rintro e w10 ⟨rfl, hF⟩
                have H10 := Lib.hid (H9.out.trans hF (by simp))
                clear hF
                go_wp2_with fail
                refine (C8.out _ H10.out).mono ?_
                rintro e w11 ⟨ak, ck2, rfl, _, hI, hF⟩
                have H11 := Lib.hid (H10.out.trans hF (by simp))
                have KI := Lib.hid hI
                clear hF hI
                obtain ⟨kn, hkn⟩ : ∃ k, k = K.length := ⟨_, rfl⟩
                rw [← hkn] at KI SS hS40 ⊢
                have HKN := Lib.hid hkn
                clear hkn
                go_wp2_with fail
                obtain ⟨wp, rfl⟩ : ∃ wp, wp = wr := ⟨_, rfl⟩
                go_loopg [12, 128] kn (fun k sn i wr => ∃ r : Nat, k = kn - r ∧ r ≤ kn ∧ sn = .int .i64 ((sq + r : Nat) : Int) ∧ i = .int .i64 r ∧ Fr [] w11 wr)
                case atStart => exact ⟨0, rfl, by omega, rfl, rfl, Fr.refl _ _⟩
                case round =>
                  obtain ⟨r, rfl, hr, rfl, rfl, hF⟩ := hrel
                  have J1 := Lib.hid (H11.out.trans hF (by simp))
                  have J2 := Lib.hid hF
                  by_cases hrk : r < kn
                  · have f2 : decide (r < kn) = true := decide_eq_true hrk
                    obtain ⟨kb, ko, rfl, hkb, hkc⟩ := (KI.out.fr hF).2.at_ (by omega)
                    have kc := hkc r hrk 0 _ rfl
                    have hchild := KD.out (K.getD r default) (getD_memD _ _ (by rw [← HKN.out]; exact hrk))
                    obtain ⟨ch, hch⟩ : ∃ c, K.getD r default = c := ⟨_, rfl⟩
                    rw [hch] at kc hchild
                    have kc' : wr.cell? ⟨kb, ko + r, none⟩ = some (.int .i64 ch) := by simpa [iv] using kc
                    have C9 := depth_is (IS7.out.fr J1.out) GJ1.out (by omega) ch
                    rw [hchild] at C9
                    have C10 := Lib.hid (fun w' (f : Fr [] wr w') => C7.out w' (J1.out.trans f (by simp)))
                    clear hF kc hkc hkb hch hchild
                    go_wp2_with fail
                    refine C9.mono ?_
                    rintro e w12 ⟨rfl, hF⟩
                    have H12 := Lib.hid hF
                    clear hF C9
                    go_wp2_with fail
                    refine (C10.out _ H12.out).mono ?_
                    rintro e w13 ⟨rfl, hF⟩
                    have J3 := Lib.hid ((J2.out.trans H12.out (by simp)).trans hF (by simp))
                    have g6 : ((dd + 1) != (dd + 1)) = false := by simp
                    clear hF C10
                    go_wp2_with fail
                    go_roundg (kn - (r + 1))
                    case measure => omega
                    case rel => exact ⟨r + 1, rfl, by omega, by congr 1, rfl, J3.out⟩
                  · have f2 : decide (r < kn) = false := decide_eq_false hrk
                    obtain rfl : r = kn := by omega
                    clear hF hrk
                    go_wp2_with fail
                    go_roundg (m - (0 + 1))
                    case measure => omega
                    case rel => exact ⟨0 + 1, rfl, by omega, by rw [SS.out], by first | rfl | (congr 1), F67.out.trans J1.out (by simp)⟩
              · subst hk
                have d5 : decide (((k + 1 : Nat) : Int) > 0) = true := decide_eq_true (by omega)
                have d5' : decide (0 < ((k + 1 : Nat) : Int)) = true := decide_eq_true (by omega)
                have d5'' : decide ((0 : Int) < (k : Int) + 1) = true := decide_eq_true (by omega)
                obtain ⟨ik, hik⟩ : ∃ i, (P.L.getD k default).id = i := ⟨_, rfl⟩
                rw [hik] at ck hlt
                have d6 : decide (ik ≥ id) = false := decide_eq_false (by omega)
                have d7 : decide ((k : Int) + 1 < (m : Int)) = true := decide_eq_true (by omega)
                have cq0 : wr.cell? ⟨vb, vo + (k + 1), none⟩ = some (.int .i64 id) := cq
                clear IDL hlt hik cq
                go_wp2_with fail
                refine (C7.out _ (Fr.refl _ _)).mono ?_
                rintro e w8 ⟨rfl, hF⟩
                have H8 := Lib.hid hF
                clear hF
                go_wp2_with fail
                refine (C7.out _ H8.out).mono ?_
                rintro e w9 ⟨rfl, hF⟩
                have H9 := Lib.hid (H8.out.trans hF (by simp))
                clear hF
                go_wp2_with fail
                refine (C7.out _ H9.out).mono ?_
                rintro e w10 ⟨rfl, hF⟩
                have H10 := Lib.hid (H9.out.trans hF (by simp))
                clear hF
                go_wp2_with fail
                refine (C8.out _ H10.out).mono ?_
                rintro e w11 ⟨ak, ck2, rfl, _, hI, hF⟩
                have H11 := Lib.hid (H10.out.trans hF (by simp))
                have KI := Lib.hid hI
                clear hF hI
                obtain ⟨kn, hkn⟩ : ∃ k, k = K.length := ⟨_, rfl⟩
                rw [← hkn] at KI SS hS40 ⊢
                have HKN := Lib.hid hkn
                clear hkn
                go_wp2_with fail
                obtain ⟨wp, rfl⟩ : ∃ wp, wp = wr := ⟨_, rfl⟩
                go_loopg [12, 128] kn (fun k sn i wr => ∃ r : Nat, k = kn - r ∧ r ≤ kn ∧ sn = .int .i64 ((sq + r : Nat) : Int) ∧ i = .int .i64 r ∧ Fr [] w11 wr)
                case atStart => exact ⟨0, rfl, by omega, rfl, rfl, Fr.refl _ _⟩
                case round =>
                  obtain ⟨r, rfl, hr, rfl, rfl, hF⟩ := hrel
                  have J1 := Lib.hid (H11.out.trans hF (by simp))
                  have J2 := Lib.hid hF
                  by_cases hrk : r < kn
                  · have f2 : decide (r < kn) = true := decide_eq_true hrk
                    obtain ⟨kb, ko, rfl, hkb, hkc⟩ := (KI.out.fr hF).2.at_ (by omega)
                    have kc := hkc r hrk 0 _ rfl
                    have hchild := KD.out (K.getD r default) (getD_memD _ _ (by rw [← HKN.out]; exact hrk))
                    obtain ⟨ch, hch⟩ : ∃ c, K.getD r default = c := ⟨_, rfl⟩
                    rw [hch] at kc hchild
                    have kc' : wr.cell? ⟨kb, ko + r, none⟩ = some (.int .i64 ch) := by simpa [iv] using kc
                    have C9 := depth_is (IS7.out.fr J1.out) GJ1.out (by omega) ch
                    rw [hchild] at C9
                    have C10 := Lib.hid (fun w' (f : Fr [] wr w') => C7.out w' (J1.out.trans f (by simp)))
                    clear hF kc hkc hkb hch hchild
                    go_wp2_with fail
                    refine C9.mono ?_
                    rintro e w12 ⟨rfl, hF⟩
                    have H12 := Lib.hid hF
                    clear hF C9
                    go_wp2_with fail
                    refine (C10.out _ H12.out).mono ?_
                    rintro e w13 ⟨rfl, hF⟩
                    have J3 := Lib.hid ((J2.out.trans H12.out (by simp)).trans hF (by simp))
                    have g6 : ((dd + 1) != (dd + 1)) = false := by simp
                    clear hF C10
                    go_wp2_with fail
                    go_roundg (kn - (r + 1))
                    case measure => omega
                    case rel => exact ⟨r + 1, rfl, by omega, by congr 1, rfl, J3.out⟩
                  · have f2 : decide (r < kn) = false := decide_eq_false hrk
                    obtain rfl : r = kn := by omega
                    clear hF hrk
                    go_wp2_with fail
                    go_roundg (m - ((k + 1) + 1))
                    case measure => omega
                    case rel => exact ⟨(k + 1) + 1, rfl, by omega, by rw [SS.out], by first | rfl | (congr 1), F67.out.trans J1.out (by simp)⟩

            · have f1 : decide (q < m) = false := decide_eq_false hqm
              obtain rfl : q = m := by omega
              have hsall : ((P.seen q : Nat) : Int) = (q : Int) - 1 := by
                have := GJ1.out.seen_all
                rw [← HM.out] at this
                omega
              rw [hsall]
              have g5 : (((q : Int) - 1) != ((q : Int) - 1)) = false := by simp
              clear hsall hqm
              go_wp2_with fail
              go_roundg (N - (j + 1))
              case measure => omega
              case rel => exact ⟨j + 1, S', rfl, by omega, by rw [HP1.out, H2.out], rfl, by rw [HP1.out]; exact IS7.out, HS5.out, F7.out⟩
    · have hjN : j = N := by omega
      by_cases h1 : j < len1
      · have d1 : decide (j < len1) = true := decide_eq_true h1
        have d2 : decide ((j : Int) < 80) = false := decide_eq_false (by have := HN.out; omega)
        clear hjn hjN h1
        go_wp2_with fail
        go_ret
        exact ⟨rfl, F.out.nil_below⟩
      · have d1 : decide (j < len1) = false := decide_eq_false h1
        clear hjn hjN h1
        go_wp2_with fail
        go_ret
        exact ⟨rfl, F.out.nil_below⟩
end Go.Proofs.Ytclkahggfdnpgaa


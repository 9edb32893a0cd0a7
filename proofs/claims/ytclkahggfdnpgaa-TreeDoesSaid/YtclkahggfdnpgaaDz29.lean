/- Parts of the proof: TDoesLaw. (Merged by pack.py.) -/
import Derived.Test.YtclkahggfdnpgaaDz27
import Derived.Test.YtclkahggfdnpgaaDz28
import Derived.Deep.CutBlock
import Derived.Deep.DeepCutAuto
set_option linter.unusedVariables false
set_option linter.unusedSimpArgs false
namespace Go.Proofs.Ytclkahggfdnpgaa
open Go.RowKit
set_option maxRecDepth 100000 in
set_option maxHeartbeats 16000000 in
theorem treeDoes_walk (p : ProgD) (a1 : Option Addr) (len1 cap1 : Nat) (L : List ActD) (W : World) (hp : ProgIn W p) (hL : ActsAt W a1 len1 L) :
    Calls Try.prog 9 #[p.val, .slice a1 len1 cap1] W fun e w' => e = .returned (.bool true) ∧ Below W.heap.size W w' := by
  have hr := (Fr.refl [] W).alloc (.cells #[.slice p.pa p.Fs.length p.pc, .slice p.ca p.Cs.length p.cc] 62)
  have HR := Lib.hid hr
  have RB := Lib.hid (Row.new W [.slice p.pa p.Fs.length p.pc, .slice p.ca p.Cs.length p.cc] 62)
  have HP := Lib.hid hp
  have HL := Lib.hid hL
  clear hp hL hr
  obtain ⟨pn, hpn⟩ : ∃ n, n = p.Fs.length := ⟨_, rfl⟩
  obtain ⟨cn, hcn⟩ : ∃ n, n = p.Cs.length := ⟨_, rfl⟩
  have hval : p.val = .agg #[.slice p.pa pn p.pc, .slice p.ca cn p.cc] := by rw [hpn, hcn]; rfl
  have HVAL := Lib.hid hval
  rw [hval]
  rw [← hpn, ← hcn] at HR RB
  clear hval hpn hcn
  go_enter Try.func9, Try.ntmps9
  go_wp2_with fail
  refine (awake19_any _).mono ?_
  rintro e w1 ⟨rfl, hF1⟩
  have F1 := Lib.hid (HR.out.trans hF1 (by simp))
  have RB1 := Lib.hid (RB.out.fr hF1 (by simp))
  have x0 := RB1.out.cell 0
  have x1 := RB1.out.cell 1
  clear hF1
  have C2 := large19_any p w1 (HP.out.fr F1.out)
  rw [HVAL.out] at C2
  go_wp2_with fail
  refine C2.mono ?_
  rintro e w2 ⟨rfl, hF2⟩
  have F2 := Lib.hid (F1.out.trans hF2 (by simp))
  have RB2 := Lib.hid (RB1.out.fr hF2 (by simp))
  have y0 := RB2.out.cell 0
  have y1 := RB2.out.cell 1
  clear hF2 C2 x0 x1 RB RB1 F1 HR
  by_cases hl : bigP p = true
  · rw [hl]
    go_wp2_with fail
    go_ret
    exact ⟨rfl, F2.out.nil_below⟩
  have hl : bigP p = false := by simpa using hl
  have PA := Lib.hid (HP.out.at_ hl)
  rw [hl]
  clear hl
  have C3 := ownp_any p w2 (PA.out.1.fr F2.out)
  rw [HVAL.out] at C3
  go_wp2_with fail
  refine C3.mono ?_
  rintro e w3 ⟨p', rfl, hP', hn', hc', hF⟩
  have F3 := Lib.hid (F2.out.trans hF (by simp))
  have RB3 := Lib.hid (RB2.out.fr hF (by simp))
  have z0 := RB3.out.cell 0
  have z1 := RB3.out.cell 1
  have PO := Lib.hid hP'
  have HN' := Lib.hid hn'
  have HC' := Lib.hid hc'
  obtain ⟨fa, hfa⟩ : ∃ a, p'.pa = a := ⟨_, rfl⟩
  obtain ⟨fn, hfn⟩ : ∃ a, p'.Fs.length = a := ⟨_, rfl⟩
  obtain ⟨fc, hfc⟩ : ∃ a, p'.pc = a := ⟨_, rfl⟩
  obtain ⟨ka, hka⟩ : ∃ a, p'.ca = a := ⟨_, rfl⟩
  obtain ⟨kn, hkn⟩ : ∃ a, p'.Cs.length = a := ⟨_, rfl⟩
  obtain ⟨kc, hkc⟩ : ∃ a, p'.cc = a := ⟨_, rfl⟩
  have C4 := new_pt p p' w3 (PA.out.1.fr F3.out) (fun g hg => hP'.foot_lt hg)
  rw [HVAL.out] at C4
  have D5 := Lib.hid (fun w' (f : Fr [] w3 w') => (by
    have := rnew_any p' w' (hP'.fr f) (en_own hn' PA.out.2)
    rw [hfa, hfn, hfc, hka, hkn, hkc] at this
    exact this : Calls Try.prog 38 #[.slice fa fn fc, .slice ka kn kc] w' (RNewP p' w')))
  have D6 := Lib.hid (fun w' (f : Fr [] w3 w') => (by
    have := may_any p w' ((PA.out.1.fr F3.out).fr f)
    rw [HVAL.out] at this
    exact this : Calls Try.prog 39 #[.agg #[.slice p.pa pn p.pc, .slice p.ca cn p.cc]] w' fun e w'' => e = .returned (.bool (mayB p.Fs p.Cs)) ∧ Fr [] w' w''))
  have D7 := Lib.hid (fun w' (f : Fr [] w3 w') => (by
    have := rmay_any p' w' (hP'.fr f)
    rw [hfa, hfn, hfc, hka, hkn, hkc, hc', may_own hn'] at this
    exact this : Calls Try.prog 40 #[.slice fa fn fc, .slice ka kn kc] w' fun e w'' => e = .returned (.bool (mayB p.Fs p.Cs)) ∧ Fr [] w' w''))
  have ME := Lib.hid (show mayB p'.Fs p'.Cs = mayB p.Fs p.Cs by rw [hc', may_own hn'])
  have NE := Lib.hid (show newPT p'.Fs p'.Cs = newPT p.Fs p.Cs by rw [hc', newPT_nrm _ _ _ hn'])
  rw [hfa, hfn, hfc, hka, hkn, hkc]
  clear hF C3 y0 y1 hP' hn' hc' hfa hfn hfc hka hkn hkc
  go_wp2_with fail
  refine C4.mono ?_
  rintro e w4 (⟨hm, rfl, hF⟩ | ⟨hm, tb, hi, S0, rfl, hF, hS0, hPair⟩)
  · have F4 := Lib.hid (F3.out.trans hF (by simp))
    have F34 := Lib.hid hF
    have HMB := Lib.hid hm
    have RB4 := Lib.hid (RB3.out.fr hF (by simp))
    have C5 := D5.out _ hF
    clear hF C4 z0 z1 hm
    go_wp2_with fail
    refine C5.mono ?_
    rintro e w5 (⟨_, rfl, hF⟩ | ⟨hm2, _⟩)
    rotate_left
    · rw [ME.out, HMB.out] at hm2; cases hm2
    have F35 := Lib.hid (F34.out.trans hF (by simp))
    have F5 := Lib.hid (F4.out.trans hF (by simp))
    have RB5 := Lib.hid (RB4.out.fr hF (by simp))
    have z0 := RB5.out.cell 0
    have z1 := RB5.out.cell 1
    have C6 := D6.out _ F35.out
    rw [HMB.out] at C6
    clear hF C5
    go_wp2_with fail
    refine C6.mono ?_
    rintro e w6 ⟨rfl, hF⟩
    have F36 := Lib.hid (F35.out.trans hF (by simp))
    have F6 := Lib.hid (F5.out.trans hF (by simp))
    have C7 := D7.out _ F36.out
    rw [HMB.out] at C7
    clear hF C6 z0 z1
    go_wp2_with fail
    refine C7.mono ?_
    rintro e w7 ⟨rfl, hF⟩
    have F7 := Lib.hid (F6.out.trans hF (by simp))
    clear hF C7
    go_wp2_with fail
    go_loopg [11] 0 (fun k i wr => k = 0 ∧ i = .int .i64 0 ∧ Fr [] W wr)
    case atStart => exact ⟨rfl, rfl, F7.out⟩
    case round =>
      obtain ⟨rfl, rfl, hF⟩ := hrel
      have F := Lib.hid hF
      clear hF
      by_cases h0 : 0 < len1
      · have d1 : decide (0 < len1) = true := decide_eq_true h0
        have d1' : decide ((0 : Int) < (len1 : Int)) = true := decide_eq_true (by omega)
        clear h0
        go_wp2_with fail
        go_ret
        exact ⟨rfl, F.out.nil_below⟩
      · have d1 : decide (0 < len1) = false := decide_eq_false h0
        have d1' : decide ((0 : Int) < (len1 : Int)) = false := decide_eq_false (by omega)
        clear h0
        go_wp2_with fail
        go_ret
        exact ⟨rfl, F.out.nil_below⟩
  have F4 := Lib.hid (F3.out.trans hF (by simp))
  have F34 := Lib.hid hF
  have HMB := Lib.hid hm
  have RB4 := Lib.hid (RB3.out.fr hF (by simp))
  have HS0 := Lib.hid hS0
  have HPAIR := Lib.hid hPair
  have C5 := D5.out _ hF
  clear hF C4 z0 z1 hm hS0 hPair
  go_wp2_with fail
  refine C5.mono ?_
  rintro e w5 (⟨hm2, _⟩ | ⟨_, rb, R0, rfl, hR, hpl, _, hb, hf, hF⟩)
  · rw [ME.out, HMB.out] at hm2; cases hm2
  have F35 := Lib.hid (F34.out.trans hF (by simp))
  have F5 := Lib.hid (F4.out.trans hF (by simp))
  have RB5 := Lib.hid (RB4.out.fr hF (by simp))
  have z0 := RB5.out.cell 0
  have z1 := RB5.out.cell 1
  have C6 := D6.out _ F35.out
  rw [HMB.out] at C6
  rw [NE.out] at hpl
  have IS0 := Lib.hid (HPAIR.out w4 w5 rb R0 (Fr.refl [] w4) hF hR hpl hb hf)
  have HSS := Lib.hid (fun y hy => (by
    rcases List.mem_append.1 hy with h | h
    · exact Nat.le_trans F3.out.size (HS0.out y h).1
    · exact Nat.le_trans F4.out.size (hb y h) : W.heap.size ≤ y) : ∀ y ∈ S0 ++ R0.blocks rb, W.heap.size ≤ y)
  have G := Lib.hid (newPT_good HMB.out PA.out.2 (fun f hf => (PA.out.1.flats f hf).evs.1))
  obtain ⟨S00, hS00⟩ : ∃ S, S0 ++ R0.blocks rb = S := ⟨_, rfl⟩
  rw [hS00] at IS0 HSS
  clear hF C5 hR hpl hb hf hS00 HS0 HPAIR
  generalize newPT p.Fs p.Cs = P0 at IS0 G NE
  go_wp2_with fail
  refine C6.mono ?_
  rintro e w6 ⟨rfl, hF⟩
  have F36 := Lib.hid (F35.out.trans hF (by simp))
  have F6 := Lib.hid (F5.out.trans hF (by simp))
  have IS6 := Lib.hid (IS0.out.fr hF)
  have C7 := D7.out _ F36.out
  rw [HMB.out] at C7
  clear hF C6 z0 z1
  go_wp2_with fail
  refine C7.mono ?_
  rintro e w7 ⟨rfl, hF⟩
  have F7 := Lib.hid (F6.out.trans hF (by simp))
  have IS7 := Lib.hid (IS6.out.fr hF)
  clear hF C7 D5 D6 D7 IS6 IS0 F36 F35 F34
  go_wp2_with fail
  obtain ⟨N, hN⟩ : ∃ N, N = min len1 80 := ⟨_, rfl⟩
  have hN80 : N ≤ 80 := by omega
  have hNl : N ≤ len1 := by omega
  have HN := Lib.hid hN
  clear hN
  go_loopg [11] N (fun k i wr => ∃ (j : Nat) (S : List Nat), k = N - j ∧ j ≤ N ∧ i = .int .i64 j ∧ PairIs wr tb hi rb S (runT P0 (L.take j)) (runT P0 (L.take j)) ∧ (∀ y ∈ S, W.heap.size ≤ y) ∧ Fr [] W wr)
  case atStart => exact ⟨0, S00, rfl, by omega, rfl, IS7.out, HSS.out, F7.out⟩
  case round =>
    obtain ⟨j, S, rfl, hj, rfl, hIS, hS, hF⟩ := hrel
    have IS := Lib.hid hIS
    have HS := Lib.hid hS
    have F := Lib.hid hF
    clear hIS hS hF
    have GJ := Lib.hid ((runT_good G.out (L.take j)).mono (show 1 + (L.take j).length ≤ 81 by rw [List.length_take]; omega))
    by_cases hjn : j < N
    · have d1 : decide (j < len1) = true := decide_eq_true (by omega)
      have d2 : decide ((j : Int) < 80) = true := decide_eq_true (by omega)
      have GJ2 := Lib.hid ((runT_good G.out (L.take (j + 1))).mono (show 1 + (L.take (j + 1)).length ≤ 81 by rw [List.length_take]; omega))
      have RS := Lib.hid (runT_succ P0 L j (by rw [HL.out.len]; omega))
      obtain ⟨gl, ol, ha, hgl, hcl⟩ := (HL.out.rows.fr F.out).at_ (by omega)
      have hcx := hcl j (by omega)
      obtain ⟨x, hx⟩ : ∃ x, L.getD j default = x := ⟨_, rfl⟩
      rw [hx] at hcx RS
      obtain ⟨xk, xi, xa⟩ := x
      have hc' : ∀ k v, ([.int .i64 xk, .int .i64 xi, .int .i64 xa] : List Value)[k]? = some v → wr.cell? ⟨gl, ol + j * 3 + k, none⟩ = some v := hcx
      have HC2 := Lib.hid hc'
      subst ha
      obtain ⟨P, hP⟩ : ∃ P, runT P0 (L.take j) = P := ⟨_, rfl⟩
      obtain ⟨P1, hP1⟩ : ∃ P, runT P0 (L.take (j + 1)) = P := ⟨_, rfl⟩
      rw [hP] at IS GJ RS
      rw [hP1] at GJ2 RS
      have HP1 := Lib.hid hP1
      change Hid (P1 = (actF P xk xi xa).2.2) at RS
      clear hcl hcx hc' hx hgl hP hP1
      go_wp2_with (first | ((with_reducible refine wpList_load_at rfl 77 (.tmp 76) rfl agg77 3 size77 gl (ol + j * 3) [.int .i64 xk, .int .i64 xi, .int .i64 xa] rfl HC2.out ?_ ?_); exact rfl) | ((with_reducible refine wpList_var_agg rfl rfl 77 (.tmp 12) (.tmp 77) rfl rfl 3 zero77 [.int .i64 xk, .int .i64 xi, .int .i64 xa] rfl ?_ ?_ ?_ ?_); (intro u hu; simp at hu; rcases hu with rfl | rfl | rfl <;> rfl); exact rfl; exact rfl))
      intro w5 hr5 hs5 hf5
      have F5 := Lib.hid (F.out.trans hf5 (by simp))
      have IS5 := Lib.hid (IS.out.fr hf5)
      have t0 := hr5.cell 0
      have t1 := hr5.cell 1
      have t2 := hr5.cell 2
      have TX5 : Apart (some ⟨wr.heap.size, 0, none⟩) 1 w5 S := fun g o _ he => by cases he; exact ⟨fun hs => by have := IS.out.lt _ hs; omega, by omega⟩
      obtain ⟨tx, htx⟩ : ∃ b, wr.heap.size = b := ⟨_, rfl⟩
      rw [htx] at t0 t1 t2 TX5 ⊢
      have BX5 := Lib.hid TX5
      have T1 := Lib.hid t1
      have T2 := Lib.hid t2
      clear hr5 hs5 hf5 htx TX5 IS
      go_upto_block 2 with fail
      go_cut [13, 14, 15, 16] (fun s13 s14 s15 s16 w => ∃ S7, PairIs w tb hi rb S7 P1 P1 ∧ (∀ y ∈ S7, W.heap.size ≤ y) ∧ Fr [] W w ∧ w.cell? ⟨tx, 1, none⟩ = some (.int .i64 xi))
      case first =>
        by_cases hk0 : xk = 0
        · subst hk0
          have RS2 := Lib.hid (show (doF P xi xa).2.2 = P1 from RS.out.symm)
          have C6 := do_pt IS5.out GJ.out (by omega) xi xa
          have D7 := Lib.hid (fun S' w' (h : PairIs w' tb hi rb S' (P1) P) => do_pr h GJ.out (by omega) xi xa)
          rw [RS2.out] at D7
          rw [RS2.out] at C6
          obtain ⟨ra, hra⟩ : ∃ v, (doF P xi xa).1 = v := ⟨_, rfl⟩
          obtain ⟨re, hre⟩ : ∃ v, (doF P xi xa).2.1 = v := ⟨_, rfl⟩
          rw [hra, hre] at C6 D7
          clear hra hre
          go_wp2_with fail
          refine C6.mono ?_
          rintro e w6 ⟨rfl, S6, hIS, hF, hS⟩
          have IS6 := Lib.hid hIS
          have HS6 := Lib.hid (fun y hy => (by rcases hS y hy with h | h; exact HS.out y h; exact Nat.le_trans F5.out.size h) : ∀ y ∈ S6, W.heap.size ≤ y)
          have F6 := Lib.hid (F5.out.trans hF (fun y hy => .inr (HS.out y hy)))
          have BX6 := Lib.hid (BX5.out.next hF hS)
          have t1 := (cell_frA BX5.out hF 1).trans T1.out
          have t2 := (cell_frA BX5.out hF 2).trans T2.out
          have T16 := Lib.hid t1
          have C7 := D7.out _ _ hIS
          clear hIS hF hS C6 D7
          go_wp2_with fail
          refine C7.mono ?_
          rintro e w7 ⟨rfl, S7, hIS, hF, hS⟩
          have IS7 := Lib.hid hIS
          have HS7 := Lib.hid (fun y hy => (by rcases hS y hy with h | h; exact HS6.out y h; exact Nat.le_trans F6.out.size h) : ∀ y ∈ S7, W.heap.size ≤ y)
          have F7 := Lib.hid (F6.out.trans hF (fun y hy => .inr (HS6.out y hy)))
          have T17 := Lib.hid ((cell_frA BX6.out hF 1).trans T16.out)
          clear hIS hF hS C7 t1 t2
          go_wp2_with fail
          go_meet
          exact ⟨S7, IS7.out, HS7.out, F7.out, T17.out⟩
        by_cases hk1 : xk = 1
        · subst hk1
          clear hk0
          have RS2 := Lib.hid (show (doF P xi xa).2.2 = P1 from RS.out.symm)
          have C6 := do_pt IS5.out GJ.out (by omega) xi xa
          have D7 := Lib.hid (fun S' w' (h : PairIs w' tb hi rb S' (P1) P) => do_pr h GJ.out (by omega) xi xa)
          rw [RS2.out] at D7
          rw [RS2.out] at C6
          obtain ⟨ra, hra⟩ : ∃ v, (doF P xi xa).1 = v := ⟨_, rfl⟩
          obtain ⟨re, hre⟩ : ∃ v, (doF P xi xa).2.1 = v := ⟨_, rfl⟩
          rw [hra, hre] at C6 D7
          clear hra hre
          go_wp2_with fail
          refine C6.mono ?_
          rintro e w6 ⟨rfl, S6, hIS, hF, hS⟩
          have IS6 := Lib.hid hIS
          have HS6 := Lib.hid (fun y hy => (by rcases hS y hy with h | h; exact HS.out y h; exact Nat.le_trans F5.out.size h) : ∀ y ∈ S6, W.heap.size ≤ y)
          have F6 := Lib.hid (F5.out.trans hF (fun y hy => .inr (HS.out y hy)))
          have BX6 := Lib.hid (BX5.out.next hF hS)
          have t1 := (cell_frA BX5.out hF 1).trans T1.out
          have t2 := (cell_frA BX5.out hF 2).trans T2.out
          have T16 := Lib.hid t1
          have C7 := D7.out _ _ hIS
          clear hIS hF hS C6 D7
          go_wp2_with fail
          refine C7.mono ?_
          rintro e w7 ⟨rfl, S7, hIS, hF, hS⟩
          have IS7 := Lib.hid hIS
          have HS7 := Lib.hid (fun y hy => (by rcases hS y hy with h | h; exact HS6.out y h; exact Nat.le_trans F6.out.size h) : ∀ y ∈ S7, W.heap.size ≤ y)
          have F7 := Lib.hid (F6.out.trans hF (fun y hy => .inr (HS6.out y hy)))
          have T17 := Lib.hid ((cell_frA BX6.out hF 1).trans T16.out)
          clear hIS hF hS C7 t1 t2
          go_wp2_with fail
          go_meet
          exact ⟨S7, IS7.out, HS7.out, F7.out, T17.out⟩
        by_cases hk2 : xk = 2
        · subst hk2
          clear hk0 hk1
          have RS2 := Lib.hid (show (endF P xi).2 = P1 from RS.out.symm)
          have C6 := Lib.hid (fun w' (g : Fr [] w5 w') => end_pt (IS5.out.fr g) GJ.out (by omega) xi)
          have D7 := Lib.hid (fun S' w' (h : PairIs w' tb hi rb S' P1 P) => end_pr h GJ.out xi)
          rw [RS2.out] at C6 D7
          obtain ⟨re, hre⟩ : ∃ v, (endF P xi).1 = v := ⟨_, rfl⟩
          rw [hre] at C6 D7
          clear hre
          have FD5 := Lib.hid (F5.out.drew)
          go_wp2_with fail
          refine wp_region_held_drew (S := (fun w' => w'.cell? ⟨tx, 1, none⟩ = some (.int .i64 xi))) (by kernel_rfl) (cell_fr' T1.out ((Fr.refl [] w5).drew)) (fun hHeld => ?_)
          refine wpAnyH_take (i := 0) (v := ?_) rfl (by kernel_rfl) (by kernel_rfl) (by kernel_rfl) (fun _ _ _ h => h) (Or.inl ⟨rfl, ?_⟩) hHeld ?_
          rotate_left
          · (intro w hSw; (try dsimp only at hSw); go_simp; try (with_reducible rfl))
          simp only [List.getElem_toArray, List.getElem_cons_succ, List.getElem_cons_zero, Act.put, List.setIfInBounds_toArray, List.set_cons_zero, List.set_cons_succ]
          refine wpAnyH_take (i := 1) (v := ?_) rfl (by kernel_rfl) (by kernel_rfl) (by kernel_rfl) (fun _ _ _ h => h) (Or.inl ⟨rfl, ?_⟩) hHeld ?_
          rotate_left
          · (intro w hSw; (try dsimp only at hSw); go_simp; try (with_reducible rfl))
          simp only [List.getElem_toArray, List.getElem_cons_succ, List.getElem_cons_zero, Act.put, List.setIfInBounds_toArray, List.set_cons_zero, List.set_cons_succ]
          refine wpAnyH_take (i := 2) (v := ?_) rfl (by kernel_rfl) (by kernel_rfl) (by kernel_rfl) (fun _ _ _ h => h) (Or.inl ⟨rfl, ?_⟩) hHeld ?_
          rotate_left
          · (intro w hSw; (try dsimp only at hSw); go_simp; try (with_reducible rfl))
          simp only [List.getElem_toArray, List.getElem_cons_succ, List.getElem_cons_zero, Act.put, List.setIfInBounds_toArray, List.set_cons_zero, List.set_cons_succ]
          refine wpAnyH_take (i := 4) (v := ?_) rfl (by kernel_rfl) (by kernel_rfl) (by kernel_rfl) (fun _ _ _ h => h) (Or.inl ⟨rfl, ?_⟩) hHeld ?_
          rotate_left
          · (intro w hSw; (try dsimp only at hSw); go_simp; try (with_reducible rfl))
          simp only [List.getElem_toArray, List.getElem_cons_succ, List.getElem_cons_zero, Act.put, List.setIfInBounds_toArray, List.set_cons_zero, List.set_cons_succ]
          refine wpAnyH_take (i := 5) (v := ?_) rfl (by kernel_rfl) (by kernel_rfl) (by kernel_rfl) (fun _ _ _ h => h) (Or.inl ⟨rfl, ?_⟩) hHeld ?_
          rotate_left
          · (intro w hSw; (try dsimp only at hSw); go_simp; try (with_reducible rfl))
          simp only [List.getElem_toArray, List.getElem_cons_succ, List.getElem_cons_zero, Act.put, List.setIfInBounds_toArray, List.set_cons_zero, List.set_cons_succ]
          refine wpAnyH_take (i := 6) (v := ?_) rfl (by kernel_rfl) (by kernel_rfl) (by kernel_rfl) (fun _ _ _ h => h) (Or.inl ⟨rfl, ?_⟩) hHeld ?_
          rotate_left
          · (intro w hSw; (try dsimp only at hSw); go_simp; try (with_reducible rfl))
          simp only [List.getElem_toArray, List.getElem_cons_succ, List.getElem_cons_zero, Act.put, List.setIfInBounds_toArray, List.set_cons_zero, List.set_cons_succ]
          refine wpAnyH_ready (rs := [3]) (by kernel_rfl) (by simp) ?_
          refine AllReadyH.cons rfl (fun K hK => ?_) AllReadyH.nil
          simp only [List.getElem_toArray, List.getElem_cons_succ, List.getElem_cons_zero]
          go_simp
          go_wp2_with (first | (go_at_call 43; refine (C6.out _ ((Fr.refl [] w5).drew)).mono ?_; rintro e w6 ⟨rfl, S6, hIS6, hF6, hS6⟩))
          refine hK.out _ _ (by first | (exact (cell_frA (BX5.out.fr ((Fr.refl [] w5).drew)) hF6 1).trans (cell_fr' T1.out ((Fr.refl [] w5).drew))) | go_keep) (fun hHeld => ?_)
          clear hK K
          refine wpAnyH_ready (rs := [7]) (by kernel_rfl) (by simp) ?_
          refine AllReadyH.cons rfl (fun K hK => ?_) AllReadyH.nil
          simp only [List.getElem_toArray, List.getElem_cons_succ, List.getElem_cons_zero]
          go_simp
          go_wp2_with (first | (go_at_call 44; refine (D7.out _ _ hIS6).mono ?_; rintro e w7 ⟨rfl, S7, hIS, hF, hS⟩))
          refine hK.out _ _ (by first | (exact (cell_frA ((BX5.out.fr ((Fr.refl [] w5).drew)).next hF6 hS6) hF 1).trans ((cell_frA (BX5.out.fr ((Fr.refl [] w5).drew)) hF6 1).trans (cell_fr' T1.out ((Fr.refl [] w5).drew)))) | go_keep) (fun hHeld => ?_)
          clear hK K
          refine wpAnyH_take (i := 8) (v := ?_) rfl (by kernel_rfl) (by kernel_rfl) (by kernel_rfl) (fun _ _ _ h => h) (Or.inl ⟨rfl, ?_⟩) hHeld ?_
          rotate_left
          · (intro w hSw; (try dsimp only at hSw); go_simp; try (with_reducible rfl))
          simp only [List.getElem_toArray, List.getElem_cons_succ, List.getElem_cons_zero, Act.put, List.setIfInBounds_toArray, List.set_cons_zero, List.set_cons_succ]
          refine wpAnyH_done (by kernel_rfl) ?_ _
          have HS6 := Lib.hid (fun y hy => (by rcases hS6 y hy with h | h; exact HS.out y h; exact Nat.le_trans FD5.out.size h) : ∀ y ∈ S6, W.heap.size ≤ y)
          have F6 := Lib.hid (FD5.out.trans hF6 (fun y hy => .inr (HS.out y hy)))
          have IS7 := Lib.hid hIS
          have HS7 := Lib.hid (fun y hy => (by rcases hS y hy with h | h; exact HS6.out y h; exact Nat.le_trans F6.out.size h) : ∀ y ∈ S7, W.heap.size ≤ y)
          have F7 := Lib.hid (F6.out.trans hF (fun y hy => .inr (HS6.out y hy)))
          have T17 := Lib.hid hHeld
          clear hIS6 hF6 hS6 hIS hF hS C6 D7 hHeld t0 t1 t2
          go_wp2_with fail
          go_meet
          exact ⟨S7, IS7.out, HS7.out, F7.out, T17.out⟩
        by_cases hk3 : xk = 3
        · subst hk3
          clear hk0 hk1 hk2
          have RS2 := Lib.hid (show (tickF P).2 = P1 from RS.out.symm)
          have C6 := tick_pt IS5.out GJ.out (by omega)
          have D7 := Lib.hid (fun S' w' (h : PairIs w' tb hi rb S' (P1) P) => tick_pr h GJ.out)
          rw [RS2.out] at D7
          rw [RS2.out] at C6
          obtain ⟨re, hre⟩ : ∃ v, (tickF P).1 = v := ⟨_, rfl⟩
          rw [hre] at C6 D7
          clear hre
          go_wp2_with fail
          refine C6.mono ?_
          rintro e w6 ⟨rfl, S6, hIS, hF, hS⟩
          have IS6 := Lib.hid hIS
          have HS6 := Lib.hid (fun y hy => (by rcases hS y hy with h | h; exact HS.out y h; exact Nat.le_trans F5.out.size h) : ∀ y ∈ S6, W.heap.size ≤ y)
          have F6 := Lib.hid (F5.out.trans hF (fun y hy => .inr (HS.out y hy)))
          have BX6 := Lib.hid (BX5.out.next hF hS)
          have t1 := (cell_frA BX5.out hF 1).trans T1.out
          have t2 := (cell_frA BX5.out hF 2).trans T2.out
          have T16 := Lib.hid t1
          have C7 := D7.out _ _ hIS
          clear hIS hF hS C6 D7
          go_wp2_with fail
          refine C7.mono ?_
          rintro e w7 ⟨rfl, S7, hIS, hF, hS⟩
          have IS7 := Lib.hid hIS
          have HS7 := Lib.hid (fun y hy => (by rcases hS y hy with h | h; exact HS6.out y h; exact Nat.le_trans F6.out.size h) : ∀ y ∈ S7, W.heap.size ≤ y)
          have F7 := Lib.hid (F6.out.trans hF (fun y hy => .inr (HS6.out y hy)))
          have T17 := Lib.hid ((cell_frA BX6.out hF 1).trans T16.out)
          clear hIS hF hS C7 t1 t2
          go_wp2_with fail
          go_meet
          exact ⟨S7, IS7.out, HS7.out, F7.out, T17.out⟩
        have b0 : (xk == 0) = false := by simpa using hk0
        have b1 : (xk == 1) = false := by simpa using hk1
        have b2 : (xk == 2) = false := by simpa using hk2
        have b3 : (xk == 3) = false := by simpa using hk3
        have RS2 := Lib.hid (show P = P1 by
          rw [RS.out]
          unfold actF
          rw [if_neg (by omega), if_neg hk2, if_neg hk3])
        clear hk0 hk1 hk2 hk3
        rw [RS2.out] at IS5
        have IS7 := IS5
        have F7 := F5
        have T17 := T1
        go_wp2_with fail
        go_meet
        exact ⟨S, IS7.out, HS.out, F7.out, T17.out⟩
      case rest =>
        obtain ⟨S7, hIS, hS, hF, hT⟩ := hcut
        obtain ⟨w7, rfl⟩ : ∃ z, z = wc := ⟨_, rfl⟩
        have IS7 := Lib.hid hIS
        have HS7 := Lib.hid hS
        have F7 := Lib.hid hF
        have T17 := Lib.hid hT
        clear hIS hS hF hT t0 t1 t2
        obtain ⟨LL, hLL⟩ : ∃ l, P1.L.map (·.id) = l := ⟨_, rfl⟩
        obtain ⟨KK, hKK⟩ : ∃ l, (P1.kids xi (-1)).map (·.id) = l := ⟨_, rfl⟩
        have hLn : LL.length ≤ 40 := by rw [← hLL, List.length_map]; exact GJ2.out.len
        have hKn : KK.length ≤ 40 := by rw [← hKK, List.length_map]; exact Nat.le_trans (List.length_filter_le _ _) GJ2.out.len
        obtain ⟨ln, hln⟩ : ∃ n, LL.length = n := ⟨_, rfl⟩
        obtain ⟨kn', hkn'⟩ : ∃ n, KK.length = n := ⟨_, rfl⟩
        obtain ⟨dp, hdp⟩ : ∃ d, P1.depth xi = d := ⟨_, rfl⟩
        obtain ⟨sl, hsl⟩ : ∃ d, P1.slack = d := ⟨_, rfl⟩
        obtain ⟨dn, hdn⟩ : ∃ d, P1.done = d := ⟨_, rfl⟩
        have D1 := Lib.hid (fun w' (g : Fr [] w7 w') => (by have := live_pt (IS7.out.fr g); rw [hLL] at this; unfold IntsQ at this; rw [hln] at this; exact this : Calls Try.prog 48 #[.pointer (some ⟨tb, 0, none⟩)] w' fun e w'' => ∃ a c, e = .returned (.slice a ln c) ∧ (∀ g o, a = some ⟨g, o, none⟩ → w'.heap.size ≤ g) ∧ IntsAt w'' a ln LL ∧ Fr [] w' w''))
        have D3 := Lib.hid (fun w' (g : Fr [] w7 w') => (by have := live_pr (IS7.out.fr g); rw [hLL] at this; unfold IntsQ at this; rw [hln] at this; exact this : Calls Try.prog 49 #[.pointer (some ⟨rb, 0, none⟩)] w' fun e w'' => ∃ a c, e = .returned (.slice a ln c) ∧ (∀ g o, a = some ⟨g, o, none⟩ → w'.heap.size ≤ g) ∧ IntsAt w'' a ln LL ∧ Fr [] w' w''))
        have D4 := Lib.hid (fun w' a b c d (hA : IntsAt w' a ln LL) (hB : IntsAt w' b ln LL) (g : Fr [] w7 w') => (by have := isame_any a b ln ln c d LL LL w' (by omega) (by omega) hA hB; rwa [decide_eq_true (rfl : LL = LL)] at this : Calls Try.prog 47 #[.slice a ln c, .slice b ln d] w' fun e w'' => e = .returned (.bool true) ∧ Fr [] w' w''))
        have D10 := Lib.hid (fun w' (g : Fr [] w7 w') => (by have := kids_pt (IS7.out.fr g) xi; rw [hKK] at this; unfold IntsQ at this; rw [hkn'] at this; exact this : Calls Try.prog 50 #[.pointer (some ⟨tb, 0, none⟩), .int .i64 xi] w' fun e w'' => ∃ a c, e = .returned (.slice a kn' c) ∧ (∀ g o, a = some ⟨g, o, none⟩ → w'.heap.size ≤ g) ∧ IntsAt w'' a kn' KK ∧ Fr [] w' w''))
        have D14 := Lib.hid (fun w' (g : Fr [] w7 w') => (by have := kids_pr (IS7.out.fr g) xi; rw [hKK] at this; unfold IntsQ at this; rw [hkn'] at this; exact this : Calls Try.prog 51 #[.pointer (some ⟨rb, 0, none⟩), .int .i64 xi, .int .i64 (-1)] w' fun e w'' => ∃ a c, e = .returned (.slice a kn' c) ∧ (∀ g o, a = some ⟨g, o, none⟩ → w'.heap.size ≤ g) ∧ IntsAt w'' a kn' KK ∧ Fr [] w' w''))
        have D15 := Lib.hid (fun w' a b c d (hA : IntsAt w' a kn' KK) (hB : IntsAt w' b kn' KK) (g : Fr [] w7 w') => (by have := isame_any a b kn' kn' c d KK KK w' (by omega) (by omega) hA hB; rwa [decide_eq_true (rfl : KK = KK)] at this : Calls Try.prog 47 #[.slice a kn' c, .slice b kn' d] w' fun e w'' => e = .returned (.bool true) ∧ Fr [] w' w''))
        have D22 := Lib.hid (fun w' (g : Fr [] w7 w') => (by have := depth_pt (IS7.out.fr g) GJ2.out (by omega) xi; rwa [hdp] at this : Calls Try.prog 52 #[.pointer (some ⟨tb, 0, none⟩), .int .i64 xi] w' fun e w'' => e = .returned (.int .i64 dp) ∧ Fr [] w' w''))
        have D26 := Lib.hid (fun w' (g : Fr [] w7 w') => (by have := depth_pr (IS7.out.fr g) GJ2.out (by omega) xi; rwa [hdp] at this : Calls Try.prog 53 #[.pointer (some ⟨rb, 0, none⟩), .int .i64 xi] w' fun e w'' => e = .returned (.int .i64 dp) ∧ Fr [] w' w''))
        have D31 := Lib.hid (fun w' (g : Fr [] w7 w') => (by have := slack_pt (IS7.out.fr g) GJ2.out (by omega); rwa [hsl] at this : Calls Try.prog 54 #[.pointer (some ⟨tb, 0, none⟩)] w' fun e w'' => e = .returned (.int .i64 sl) ∧ Fr [] w' w''))
        have D33 := Lib.hid (fun w' (g : Fr [] w7 w') => (by have := slack_pr (IS7.out.fr g) GJ2.out; rwa [hsl] at this : Calls Try.prog 55 #[.pointer (some ⟨rb, 0, none⟩)] w' fun e w'' => e = .returned (.int .i64 sl) ∧ Fr [] w' w''))
        have D38 := Lib.hid (fun w' (g : Fr [] w7 w') => (by have := done_pt (IS7.out.fr g) GJ2.out (by omega); rwa [hdn] at this : Calls Try.prog 56 #[.pointer (some ⟨tb, 0, none⟩)] w' fun e w'' => e = .returned (.bool dn) ∧ Fr [] w' w''))
        have D40 := Lib.hid (fun w' (g : Fr [] w7 w') => (by have := done_pr (IS7.out.fr g) GJ2.out; rwa [hdn] at this : Calls Try.prog 57 #[.pointer (some ⟨rb, 0, none⟩)] w' fun e w'' => e = .returned (.bool dn) ∧ Fr [] w' w''))
        have KP := Lib.hid (fun w' (g : Fr [] w7 w') => cell_fr' T17.out g)
        clear hLL hKK hln hkn' hdp hsl hdn hLn hKn
        go_wp2_with fail
        refine wp_region_held_drew (S := (fun w' => w'.cell? ⟨tx, 1, none⟩ = some (.int .i64 xi))) (by kernel_rfl) (KP.out _ ((Fr.refl [] w7).drew)) (fun hHeld => ?_)
        refine wpAnyH_take (i := 0) (v := ?_) rfl (by kernel_rfl) (by kernel_rfl) (by kernel_rfl) (fun _ _ _ h => h) (Or.inl ⟨rfl, ?_⟩) hHeld ?_
        rotate_left
        · (intro w hSw; (try dsimp only at hSw); go_simp; try (with_reducible rfl))
        simp only [List.getElem_toArray, List.getElem_cons_succ, List.getElem_cons_zero, Act.put, List.setIfInBounds_toArray, List.set_cons_zero, List.set_cons_succ]
        refine wpAnyH_take (i := 2) (v := ?_) rfl (by kernel_rfl) (by kernel_rfl) (by kernel_rfl) (fun _ _ _ h => h) (Or.inl ⟨rfl, ?_⟩) hHeld ?_
        rotate_left
        · (intro w hSw; (try dsimp only at hSw); go_simp; try (with_reducible rfl))
        simp only [List.getElem_toArray, List.getElem_cons_succ, List.getElem_cons_zero, Act.put, List.setIfInBounds_toArray, List.set_cons_zero, List.set_cons_succ]
        refine wpAnyH_ready (rs := [1]) (by kernel_rfl) (by simp) ?_
        refine AllReadyH.cons rfl (fun K hK => ?_) AllReadyH.nil
        simp only [List.getElem_toArray, List.getElem_cons_succ, List.getElem_cons_zero]
        go_simp
        go_wp2_with (first | (go_at_call 48; refine (D1.out _ ((Fr.refl [] w7).drew)).mono ?_; rintro e v1 ⟨b1, c1, rfl, _, hI1, hG1⟩))
        refine hK.out _ _ (by first | (exact KP.out _ (((Fr.refl [] w7).drew).trans hG1 (by simp))) | go_keep) (fun hHeld => ?_)
        clear hK K
        refine wpAnyH_ready (rs := [3]) (by kernel_rfl) (by simp) ?_
        refine AllReadyH.cons rfl (fun K hK => ?_) AllReadyH.nil
        simp only [List.getElem_toArray, List.getElem_cons_succ, List.getElem_cons_zero]
        go_simp
        go_wp2_with (first | (go_at_call 49; refine (D3.out _ ((((Fr.refl [] w7).drew).trans hG1 (by simp)))).mono ?_; rintro e v3 ⟨b3, c3, rfl, _, hI3, hG3⟩))
        refine hK.out _ _ (by first | (exact KP.out _ (((((Fr.refl [] w7).drew).trans hG1 (by simp))).trans hG3 (by simp))) | go_keep) (fun hHeld => ?_)
        clear hK K
        refine wpAnyH_ready (rs := [4]) (by kernel_rfl) (by simp) ?_
        refine AllReadyH.cons rfl (fun K hK => ?_) AllReadyH.nil
        simp only [List.getElem_toArray, List.getElem_cons_succ, List.getElem_cons_zero]
        go_simp
        go_wp2_with (first | (go_at_call 47; refine (D4.out _ _ _ _ _ (hI1.fr hG3) hI3 ((((((Fr.refl [] w7).drew).trans hG1 (by simp))).trans hG3 (by simp)))).mono ?_; rintro e v4 ⟨rfl, hG4⟩))
        refine hK.out _ _ (by first | (exact KP.out _ (((((((Fr.refl [] w7).drew).trans hG1 (by simp))).trans hG3 (by simp))).trans hG4 (by simp))) | go_keep) (fun hHeld => ?_)
        clear hK K
        refine wpAnyH_take (i := 5) (v := ?_) rfl (by kernel_rfl) (by kernel_rfl) (by kernel_rfl) (fun _ _ _ h => h) (Or.inl ⟨rfl, ?_⟩) hHeld ?_
        rotate_left
        · (intro w hSw; (try dsimp only at hSw); go_simp; try (with_reducible rfl))
        simp only [List.getElem_toArray, List.getElem_cons_succ, List.getElem_cons_zero, Act.put, List.setIfInBounds_toArray, List.set_cons_zero, List.set_cons_succ]
        refine wpAnyH_take (i := 6) (v := ?_) rfl (by kernel_rfl) (by kernel_rfl) (by kernel_rfl) (fun _ _ _ h => h) (Or.inl ⟨rfl, ?_⟩) hHeld ?_
        rotate_left
        · (intro w hSw; (try dsimp only at hSw); go_simp; try (with_reducible rfl))
        simp only [List.getElem_toArray, List.getElem_cons_succ, List.getElem_cons_zero, Act.put, List.setIfInBounds_toArray, List.set_cons_zero, List.set_cons_succ]
        refine wpAnyH_take (i := 7) (v := ?_) rfl (by kernel_rfl) (by kernel_rfl) (by kernel_rfl) (fun _ _ _ h => h) (Or.inl ⟨rfl, ?_⟩) hHeld ?_
        rotate_left
        · (intro w hSw; (try dsimp only at hSw); go_simp; try (with_reducible rfl))
        simp only [List.getElem_toArray, List.getElem_cons_succ, List.getElem_cons_zero, Act.put, List.setIfInBounds_toArray, List.set_cons_zero, List.set_cons_succ]
        refine wpAnyH_take (i := 8) (v := ?_) rfl (by kernel_rfl) (by kernel_rfl) (by kernel_rfl) (fun _ _ _ h => h) (Or.inl ⟨rfl, ?_⟩) hHeld ?_
        rotate_left
        · (intro w hSw; (try dsimp only at hSw); go_simp; try (with_reducible rfl))
        simp only [List.getElem_toArray, List.getElem_cons_succ, List.getElem_cons_zero, Act.put, List.setIfInBounds_toArray, List.set_cons_zero, List.set_cons_succ]
        refine wpAnyH_take (i := 9) (v := ?_) rfl (by kernel_rfl) (by kernel_rfl) (by kernel_rfl) (fun _ _ _ h => h) (Or.inl ⟨rfl, ?_⟩) hHeld ?_
        rotate_left
        · (intro w hSw; (try dsimp only at hSw); go_simp; try (with_reducible rfl))
        simp only [List.getElem_toArray, List.getElem_cons_succ, List.getElem_cons_zero, Act.put, List.setIfInBounds_toArray, List.set_cons_zero, List.set_cons_succ]
        refine wpAnyH_take (i := 11) (v := ?_) rfl (by kernel_rfl) (by kernel_rfl) (by kernel_rfl) (fun _ _ _ h => h) (Or.inl ⟨rfl, ?_⟩) hHeld ?_
        rotate_left
        · (intro w hSw; (try dsimp only at hSw); go_simp; try (with_reducible rfl))
        simp only [List.getElem_toArray, List.getElem_cons_succ, List.getElem_cons_zero, Act.put, List.setIfInBounds_toArray, List.set_cons_zero, List.set_cons_succ]
        refine wpAnyH_take (i := 12) (v := ?_) rfl (by kernel_rfl) (by kernel_rfl) (by kernel_rfl) (fun _ _ _ h => h) (Or.inl ⟨rfl, ?_⟩) hHeld ?_
        rotate_left
        · (intro w hSw; (try dsimp only at hSw); go_simp; try (with_reducible rfl))
        simp only [List.getElem_toArray, List.getElem_cons_succ, List.getElem_cons_zero, Act.put, List.setIfInBounds_toArray, List.set_cons_zero, List.set_cons_succ]
        refine wpAnyH_take (i := 13) (v := ?_) rfl (by kernel_rfl) (by kernel_rfl) (by kernel_rfl) (fun _ _ _ h => h) (Or.inl ⟨rfl, ?_⟩) hHeld ?_
        rotate_left
        · (intro w hSw; (try dsimp only at hSw); go_simp; try (with_reducible rfl))
        simp only [List.getElem_toArray, List.getElem_cons_succ, List.getElem_cons_zero, Act.put, List.setIfInBounds_toArray, List.set_cons_zero, List.set_cons_succ]
        refine wpAnyH_ready (rs := [10]) (by kernel_rfl) (by simp) ?_
        refine AllReadyH.cons rfl (fun K hK => ?_) AllReadyH.nil
        simp only [List.getElem_toArray, List.getElem_cons_succ, List.getElem_cons_zero]
        go_simp
        go_wp2_with (first | (go_at_call 50; refine (D10.out _ ((((((((Fr.refl [] w7).drew).trans hG1 (by simp))).trans hG3 (by simp))).trans hG4 (by simp)))).mono ?_; rintro e v10 ⟨b10, c10, rfl, _, hI10, hG10⟩))
        refine hK.out _ _ (by first | (exact KP.out _ (((((((((Fr.refl [] w7).drew).trans hG1 (by simp))).trans hG3 (by simp))).trans hG4 (by simp))).trans hG10 (by simp))) | go_keep) (fun hHeld => ?_)
        clear hK K
        refine wpAnyH_ready (rs := [14]) (by kernel_rfl) (by simp) ?_
        refine AllReadyH.cons rfl (fun K hK => ?_) AllReadyH.nil
        simp only [List.getElem_toArray, List.getElem_cons_succ, List.getElem_cons_zero]
        go_simp
        go_wp2_with (first | (go_at_call 51; refine (D14.out _ ((((((((((Fr.refl [] w7).drew).trans hG1 (by simp))).trans hG3 (by simp))).trans hG4 (by simp))).trans hG10 (by simp)))).mono ?_; rintro e v14 ⟨b14, c14, rfl, _, hI14, hG14⟩))
        refine hK.out _ _ (by first | (exact KP.out _ (((((((((((Fr.refl [] w7).drew).trans hG1 (by simp))).trans hG3 (by simp))).trans hG4 (by simp))).trans hG10 (by simp))).trans hG14 (by simp))) | go_keep) (fun hHeld => ?_)
        clear hK K
        refine wpAnyH_ready (rs := [15]) (by kernel_rfl) (by simp) ?_
        refine AllReadyH.cons rfl (fun K hK => ?_) AllReadyH.nil
        simp only [List.getElem_toArray, List.getElem_cons_succ, List.getElem_cons_zero]
        go_simp
        go_wp2_with (first | (go_at_call 47; refine (D15.out _ _ _ _ _ (hI10.fr hG14) hI14 ((((((((((((Fr.refl [] w7).drew).trans hG1 (by simp))).trans hG3 (by simp))).trans hG4 (by simp))).trans hG10 (by simp))).trans hG14 (by simp)))).mono ?_; rintro e v15 ⟨rfl, hG15⟩))
        refine hK.out _ _ (by first | (exact KP.out _ (((((((((((((Fr.refl [] w7).drew).trans hG1 (by simp))).trans hG3 (by simp))).trans hG4 (by simp))).trans hG10 (by simp))).trans hG14 (by simp))).trans hG15 (by simp))) | go_keep) (fun hHeld => ?_)
        clear hK K
        refine wpAnyH_take (i := 16) (v := ?_) rfl (by kernel_rfl) (by kernel_rfl) (by kernel_rfl) (fun _ _ _ h => h) (Or.inl ⟨rfl, ?_⟩) hHeld ?_
        rotate_left
        · (intro w hSw; (try dsimp only at hSw); go_simp; try (with_reducible rfl))
        simp only [List.getElem_toArray, List.getElem_cons_succ, List.getElem_cons_zero, Act.put, List.setIfInBounds_toArray, List.set_cons_zero, List.set_cons_succ]
        refine wpAnyH_take (i := 17) (v := ?_) rfl (by kernel_rfl) (by kernel_rfl) (by kernel_rfl) (fun _ _ _ h => h) (Or.inl ⟨rfl, ?_⟩) hHeld ?_
        rotate_left
        · (intro w hSw; (try dsimp only at hSw); go_simp; try (with_reducible rfl))
        simp only [List.getElem_toArray, List.getElem_cons_succ, List.getElem_cons_zero, Act.put, List.setIfInBounds_toArray, List.set_cons_zero, List.set_cons_succ]
        refine wpAnyH_take (i := 18) (v := ?_) rfl (by kernel_rfl) (by kernel_rfl) (by kernel_rfl) (fun _ _ _ h => h) (Or.inl ⟨rfl, ?_⟩) hHeld ?_
        rotate_left
        · (intro w hSw; (try dsimp only at hSw); go_simp; try (with_reducible rfl))
        simp only [List.getElem_toArray, List.getElem_cons_succ, List.getElem_cons_zero, Act.put, List.setIfInBounds_toArray, List.set_cons_zero, List.set_cons_succ]
        refine wpAnyH_take (i := 19) (v := ?_) rfl (by kernel_rfl) (by kernel_rfl) (by kernel_rfl) (fun _ _ _ h => h) (Or.inl ⟨rfl, ?_⟩) hHeld ?_
        rotate_left
        · (intro w hSw; (try dsimp only at hSw); go_simp; try (with_reducible rfl))
        simp only [List.getElem_toArray, List.getElem_cons_succ, List.getElem_cons_zero, Act.put, List.setIfInBounds_toArray, List.set_cons_zero, List.set_cons_succ]
        refine wpAnyH_take (i := 20) (v := ?_) rfl (by kernel_rfl) (by kernel_rfl) (by kernel_rfl) (fun _ _ _ h => h) (Or.inl ⟨rfl, ?_⟩) hHeld ?_
        rotate_left
        · (intro w hSw; (try dsimp only at hSw); go_simp; try (with_reducible rfl))
        simp only [List.getElem_toArray, List.getElem_cons_succ, List.getElem_cons_zero, Act.put, List.setIfInBounds_toArray, List.set_cons_zero, List.set_cons_succ]
        refine wpAnyH_take (i := 21) (v := ?_) rfl (by kernel_rfl) (by kernel_rfl) (by kernel_rfl) (fun _ _ _ h => h) (Or.inl ⟨rfl, ?_⟩) hHeld ?_
        rotate_left
        · (intro w hSw; (try dsimp only at hSw); go_simp; try (with_reducible rfl))
        simp only [List.getElem_toArray, List.getElem_cons_succ, List.getElem_cons_zero, Act.put, List.setIfInBounds_toArray, List.set_cons_zero, List.set_cons_succ]
        refine wpAnyH_take (i := 23) (v := ?_) rfl (by kernel_rfl) (by kernel_rfl) (by kernel_rfl) (fun _ _ _ h => h) (Or.inl ⟨rfl, ?_⟩) hHeld ?_
        rotate_left
        · (intro w hSw; (try dsimp only at hSw); go_simp; try (with_reducible rfl))
        simp only [List.getElem_toArray, List.getElem_cons_succ, List.getElem_cons_zero, Act.put, List.setIfInBounds_toArray, List.set_cons_zero, List.set_cons_succ]
        refine wpAnyH_take (i := 24) (v := ?_) rfl (by kernel_rfl) (by kernel_rfl) (by kernel_rfl) (fun _ _ _ h => h) (Or.inl ⟨rfl, ?_⟩) hHeld ?_
        rotate_left
        · (intro w hSw; (try dsimp only at hSw); go_simp; try (with_reducible rfl))
        simp only [List.getElem_toArray, List.getElem_cons_succ, List.getElem_cons_zero, Act.put, List.setIfInBounds_toArray, List.set_cons_zero, List.set_cons_succ]
        refine wpAnyH_take (i := 25) (v := ?_) rfl (by kernel_rfl) (by kernel_rfl) (by kernel_rfl) (fun _ _ _ h => h) (Or.inl ⟨rfl, ?_⟩) hHeld ?_
        rotate_left
        · (intro w hSw; (try dsimp only at hSw); go_simp; try (with_reducible rfl))
        simp only [List.getElem_toArray, List.getElem_cons_succ, List.getElem_cons_zero, Act.put, List.setIfInBounds_toArray, List.set_cons_zero, List.set_cons_succ]
        refine wpAnyH_ready (rs := [22]) (by kernel_rfl) (by simp) ?_
        refine AllReadyH.cons rfl (fun K hK => ?_) AllReadyH.nil
        simp only [List.getElem_toArray, List.getElem_cons_succ, List.getElem_cons_zero]
        go_simp
        go_wp2_with (first | (go_at_call 52; refine (D22.out _ ((((((((((((((Fr.refl [] w7).drew).trans hG1 (by simp))).trans hG3 (by simp))).trans hG4 (by simp))).trans hG10 (by simp))).trans hG14 (by simp))).trans hG15 (by simp)))).mono ?_; rintro e v22 ⟨rfl, hG22⟩))
        refine hK.out _ _ (by first | (exact KP.out _ (((((((((((((((Fr.refl [] w7).drew).trans hG1 (by simp))).trans hG3 (by simp))).trans hG4 (by simp))).trans hG10 (by simp))).trans hG14 (by simp))).trans hG15 (by simp))).trans hG22 (by simp))) | go_keep) (fun hHeld => ?_)
        clear hK K
        refine wpAnyH_ready (rs := [26]) (by kernel_rfl) (by simp) ?_
        refine AllReadyH.cons rfl (fun K hK => ?_) AllReadyH.nil
        simp only [List.getElem_toArray, List.getElem_cons_succ, List.getElem_cons_zero]
        go_simp
        go_wp2_with (first | (go_at_call 53; refine (D26.out _ ((((((((((((((((Fr.refl [] w7).drew).trans hG1 (by simp))).trans hG3 (by simp))).trans hG4 (by simp))).trans hG10 (by simp))).trans hG14 (by simp))).trans hG15 (by simp))).trans hG22 (by simp)))).mono ?_; rintro e v26 ⟨rfl, hG26⟩))
        refine hK.out _ _ (by first | (exact KP.out _ (((((((((((((((((Fr.refl [] w7).drew).trans hG1 (by simp))).trans hG3 (by simp))).trans hG4 (by simp))).trans hG10 (by simp))).trans hG14 (by simp))).trans hG15 (by simp))).trans hG22 (by simp))).trans hG26 (by simp))) | go_keep) (fun hHeld => ?_)
        clear hK K
        refine wpAnyH_take (i := 27) (v := ?_) rfl (by kernel_rfl) (by kernel_rfl) (by kernel_rfl) (fun _ _ _ h => h) (Or.inl ⟨rfl, ?_⟩) hHeld ?_
        rotate_left
        · (intro w hSw; (try dsimp only at hSw); go_simp; try (with_reducible rfl))
        simp only [List.getElem_toArray, List.getElem_cons_succ, List.getElem_cons_zero, Act.put, List.setIfInBounds_toArray, List.set_cons_zero, List.set_cons_succ]
        refine wpAnyH_take (i := 28) (v := ?_) rfl (by kernel_rfl) (by kernel_rfl) (by kernel_rfl) (fun _ _ _ h => h) (Or.inl ⟨rfl, ?_⟩) hHeld ?_
        rotate_left
        · (intro w hSw; (try dsimp only at hSw); go_simp; try (with_reducible rfl))
        simp only [List.getElem_toArray, List.getElem_cons_succ, List.getElem_cons_zero, Act.put, List.setIfInBounds_toArray, List.set_cons_zero, List.set_cons_succ]
        refine wpAnyH_take (i := 29) (v := ?_) rfl (by kernel_rfl) (by kernel_rfl) (by kernel_rfl) (fun _ _ _ h => h) (Or.inl ⟨rfl, ?_⟩) hHeld ?_
        rotate_left
        · (intro w hSw; (try dsimp only at hSw); go_simp; try (with_reducible rfl))
        simp only [List.getElem_toArray, List.getElem_cons_succ, List.getElem_cons_zero, Act.put, List.setIfInBounds_toArray, List.set_cons_zero, List.set_cons_succ]
        refine wpAnyH_take (i := 30) (v := ?_) rfl (by kernel_rfl) (by kernel_rfl) (by kernel_rfl) (fun _ _ _ h => h) (Or.inl ⟨rfl, ?_⟩) hHeld ?_
        rotate_left
        · (intro w hSw; (try dsimp only at hSw); go_simp; try (with_reducible rfl))
        simp only [List.getElem_toArray, List.getElem_cons_succ, List.getElem_cons_zero, Act.put, List.setIfInBounds_toArray, List.set_cons_zero, List.set_cons_succ]
        refine wpAnyH_take (i := 32) (v := ?_) rfl (by kernel_rfl) (by kernel_rfl) (by kernel_rfl) (fun _ _ _ h => h) (Or.inl ⟨rfl, ?_⟩) hHeld ?_
        rotate_left
        · (intro w hSw; (try dsimp only at hSw); go_simp; try (with_reducible rfl))
        simp only [List.getElem_toArray, List.getElem_cons_succ, List.getElem_cons_zero, Act.put, List.setIfInBounds_toArray, List.set_cons_zero, List.set_cons_succ]
        refine wpAnyH_ready (rs := [31]) (by kernel_rfl) (by simp) ?_
        refine AllReadyH.cons rfl (fun K hK => ?_) AllReadyH.nil
        simp only [List.getElem_toArray, List.getElem_cons_succ, List.getElem_cons_zero]
        go_simp
        go_wp2_with (first | (go_at_call 54; refine (D31.out _ ((((((((((((((((((Fr.refl [] w7).drew).trans hG1 (by simp))).trans hG3 (by simp))).trans hG4 (by simp))).trans hG10 (by simp))).trans hG14 (by simp))).trans hG15 (by simp))).trans hG22 (by simp))).trans hG26 (by simp)))).mono ?_; rintro e v31 ⟨rfl, hG31⟩))
        refine hK.out _ _ (by first | (exact KP.out _ (((((((((((((((((((Fr.refl [] w7).drew).trans hG1 (by simp))).trans hG3 (by simp))).trans hG4 (by simp))).trans hG10 (by simp))).trans hG14 (by simp))).trans hG15 (by simp))).trans hG22 (by simp))).trans hG26 (by simp))).trans hG31 (by simp))) | go_keep) (fun hHeld => ?_)
        clear hK K
        refine wpAnyH_ready (rs := [33]) (by kernel_rfl) (by simp) ?_
        refine AllReadyH.cons rfl (fun K hK => ?_) AllReadyH.nil
        simp only [List.getElem_toArray, List.getElem_cons_succ, List.getElem_cons_zero]
        go_simp
        go_wp2_with (first | (go_at_call 55; refine (D33.out _ ((((((((((((((((((((Fr.refl [] w7).drew).trans hG1 (by simp))).trans hG3 (by simp))).trans hG4 (by simp))).trans hG10 (by simp))).trans hG14 (by simp))).trans hG15 (by simp))).trans hG22 (by simp))).trans hG26 (by simp))).trans hG31 (by simp)))).mono ?_; rintro e v33 ⟨rfl, hG33⟩))
        refine hK.out _ _ (by first | (exact KP.out _ (((((((((((((((((((((Fr.refl [] w7).drew).trans hG1 (by simp))).trans hG3 (by simp))).trans hG4 (by simp))).trans hG10 (by simp))).trans hG14 (by simp))).trans hG15 (by simp))).trans hG22 (by simp))).trans hG26 (by simp))).trans hG31 (by simp))).trans hG33 (by simp))) | go_keep) (fun hHeld => ?_)
        clear hK K
        refine wpAnyH_take (i := 34) (v := ?_) rfl (by kernel_rfl) (by kernel_rfl) (by kernel_rfl) (fun _ _ _ h => h) (Or.inl ⟨rfl, ?_⟩) hHeld ?_
        rotate_left
        · (intro w hSw; (try dsimp only at hSw); go_simp; try (with_reducible rfl))
        simp only [List.getElem_toArray, List.getElem_cons_succ, List.getElem_cons_zero, Act.put, List.setIfInBounds_toArray, List.set_cons_zero, List.set_cons_succ]
        refine wpAnyH_take (i := 35) (v := ?_) rfl (by kernel_rfl) (by kernel_rfl) (by kernel_rfl) (fun _ _ _ h => h) (Or.inl ⟨rfl, ?_⟩) hHeld ?_
        rotate_left
        · (intro w hSw; (try dsimp only at hSw); go_simp; try (with_reducible rfl))
        simp only [List.getElem_toArray, List.getElem_cons_succ, List.getElem_cons_zero, Act.put, List.setIfInBounds_toArray, List.set_cons_zero, List.set_cons_succ]
        refine wpAnyH_take (i := 36) (v := ?_) rfl (by kernel_rfl) (by kernel_rfl) (by kernel_rfl) (fun _ _ _ h => h) (Or.inl ⟨rfl, ?_⟩) hHeld ?_
        rotate_left
        · (intro w hSw; (try dsimp only at hSw); go_simp; try (with_reducible rfl))
        simp only [List.getElem_toArray, List.getElem_cons_succ, List.getElem_cons_zero, Act.put, List.setIfInBounds_toArray, List.set_cons_zero, List.set_cons_succ]
        refine wpAnyH_take (i := 37) (v := ?_) rfl (by kernel_rfl) (by kernel_rfl) (by kernel_rfl) (fun _ _ _ h => h) (Or.inl ⟨rfl, ?_⟩) hHeld ?_
        rotate_left
        · (intro w hSw; (try dsimp only at hSw); go_simp; try (with_reducible rfl))
        simp only [List.getElem_toArray, List.getElem_cons_succ, List.getElem_cons_zero, Act.put, List.setIfInBounds_toArray, List.set_cons_zero, List.set_cons_succ]
        refine wpAnyH_take (i := 39) (v := ?_) rfl (by kernel_rfl) (by kernel_rfl) (by kernel_rfl) (fun _ _ _ h => h) (Or.inl ⟨rfl, ?_⟩) hHeld ?_
        rotate_left
        · (intro w hSw; (try dsimp only at hSw); go_simp; try (with_reducible rfl))
        simp only [List.getElem_toArray, List.getElem_cons_succ, List.getElem_cons_zero, Act.put, List.setIfInBounds_toArray, List.set_cons_zero, List.set_cons_succ]
        refine wpAnyH_ready (rs := [38]) (by kernel_rfl) (by simp) ?_
        refine AllReadyH.cons rfl (fun K hK => ?_) AllReadyH.nil
        simp only [List.getElem_toArray, List.getElem_cons_succ, List.getElem_cons_zero]
        go_simp
        go_wp2_with (first | (go_at_call 56; refine (D38.out _ ((((((((((((((((((((((Fr.refl [] w7).drew).trans hG1 (by simp))).trans hG3 (by simp))).trans hG4 (by simp))).trans hG10 (by simp))).trans hG14 (by simp))).trans hG15 (by simp))).trans hG22 (by simp))).trans hG26 (by simp))).trans hG31 (by simp))).trans hG33 (by simp)))).mono ?_; rintro e v38 ⟨rfl, hG38⟩))
        refine hK.out _ _ (by first | (exact KP.out _ (((((((((((((((((((((((Fr.refl [] w7).drew).trans hG1 (by simp))).trans hG3 (by simp))).trans hG4 (by simp))).trans hG10 (by simp))).trans hG14 (by simp))).trans hG15 (by simp))).trans hG22 (by simp))).trans hG26 (by simp))).trans hG31 (by simp))).trans hG33 (by simp))).trans hG38 (by simp))) | go_keep) (fun hHeld => ?_)
        clear hK K
        refine wpAnyH_ready (rs := [40]) (by kernel_rfl) (by simp) ?_
        refine AllReadyH.cons rfl (fun K hK => ?_) AllReadyH.nil
        simp only [List.getElem_toArray, List.getElem_cons_succ, List.getElem_cons_zero]
        go_simp
        go_wp2_with (first | (go_at_call 57; refine (D40.out _ ((((((((((((((((((((((((Fr.refl [] w7).drew).trans hG1 (by simp))).trans hG3 (by simp))).trans hG4 (by simp))).trans hG10 (by simp))).trans hG14 (by simp))).trans hG15 (by simp))).trans hG22 (by simp))).trans hG26 (by simp))).trans hG31 (by simp))).trans hG33 (by simp))).trans hG38 (by simp)))).mono ?_; rintro e v40 ⟨rfl, hG40⟩))
        refine hK.out _ _ (by first | (exact KP.out _ (((((((((((((((((((((((((Fr.refl [] w7).drew).trans hG1 (by simp))).trans hG3 (by simp))).trans hG4 (by simp))).trans hG10 (by simp))).trans hG14 (by simp))).trans hG15 (by simp))).trans hG22 (by simp))).trans hG26 (by simp))).trans hG31 (by simp))).trans hG33 (by simp))).trans hG38 (by simp))).trans hG40 (by simp))) | go_keep) (fun hHeld => ?_)
        clear hK K
        refine wpAnyH_take (i := 41) (v := ?_) rfl (by kernel_rfl) (by kernel_rfl) (by kernel_rfl) (fun _ _ _ h => h) (Or.inl ⟨rfl, ?_⟩) hHeld ?_
        rotate_left
        · (intro w hSw; (try dsimp only at hSw); go_simp; try (with_reducible rfl))
        simp only [List.getElem_toArray, List.getElem_cons_succ, List.getElem_cons_zero, Act.put, List.setIfInBounds_toArray, List.set_cons_zero, List.set_cons_succ]
        refine wpAnyH_take (i := 42) (v := ?_) rfl (by kernel_rfl) (by kernel_rfl) (by kernel_rfl) (fun _ _ _ h => h) (Or.inl ⟨rfl, ?_⟩) hHeld ?_
        rotate_left
        · (intro w hSw; (try dsimp only at hSw); go_simp; try (with_reducible rfl))
        simp only [List.getElem_toArray, List.getElem_cons_succ, List.getElem_cons_zero, Act.put, List.setIfInBounds_toArray, List.set_cons_zero, List.set_cons_succ]
        refine wpAnyH_done (by kernel_rfl) ?_ _
        have FZ := Lib.hid ((((((((((((((((((((((((((Fr.refl [] w7).drew).trans hG1 (by simp))).trans hG3 (by simp))).trans hG4 (by simp))).trans hG10 (by simp))).trans hG14 (by simp))).trans hG15 (by simp))).trans hG22 (by simp))).trans hG26 (by simp))).trans hG31 (by simp))).trans hG33 (by simp))).trans hG38 (by simp))).trans hG40 (by simp)))
        clear hG1 hG3 hG4 hG10 hG14 hG15 hG22 hG26 hG31 hG33 hG38 hG40 hI1 hI3 hI10 hI14 hHeld KP D1 D3 D4 D10 D14 D15 D22 D26 D31 D33 D38 D40
        have IS8 := Lib.hid (IS7.out.fr FZ.out)
        have F8 := Lib.hid (F7.out.trans FZ.out (by simp))
        obtain ⟨nx, hnx⟩ : ∃ n, P1.next = n := ⟨_, rfl⟩
        have hnx9 : nx ≤ 81 := by rw [← hnx]; exact GJ2.out.next
        have HNX := Lib.hid hnx
        clear hnx FZ
        go_wp2_with fail
        obtain ⟨wo, hwo⟩ : ∃ wo, wo = v40 := ⟨_, rfl⟩
        go_loopg [17] (nx + 2) (fun k i wz => ∃ kk : Int, k = (nx + 1 - kk).toNat ∧ -1 ≤ kk ∧ kk ≤ nx + 1 ∧ i = .int .i64 kk ∧ Fr [] v40 wz)
        case atStart => exact ⟨-1, by omega, by omega, by omega, rfl, Fr.refl _ _⟩
        case round =>
          obtain ⟨kk, rfl, hk1, hk2, rfl, hF⟩ := hrel
          have IS9 := Lib.hid (IS8.out.fr hF)
          have F9 := Lib.hid (F8.out.trans hF (by simp))
          have F89 := Lib.hid hF
          obtain ⟨na, nc, hnode⟩ := IS9.out.nodes
          rw [HNX.out] at hnode
          clear hF
          by_cases hkn : kk ≤ (nx : Int)
          · have dk : decide (kk ≤ (nx : Int)) = true := decide_eq_true hkn
            have C8 := mark_pt IS9.out GJ2.out (by omega) kk
            have D9 := Lib.hid (fun w' (g : Fr [] wr w') => mark_pr (IS9.out.fr g) kk)
            go_wp2_with fail
            refine C8.mono ?_
            rintro e v8 (⟨hno, rfl, hF⟩ | ⟨y, hy, am, cm, rfl, hM, _, hF⟩)
            · have HNO := Lib.hid hno
              have F10 := Lib.hid hF
              have C9 := D9.out _ hF
              clear hF C8 hno hnode D9
              go_wp2_with fail
              refine C9.mono ?_
              rintro e v9 (⟨_, rfl, hF⟩ | ⟨y, hy, _⟩)
              rotate_left
              · rw [HNO.out] at hy; cases hy
              have F11 := Lib.hid (F10.out.trans hF (by simp))
              have C10 := rsame_any none none 0 0 0 0 [] [] v9 (by omega) (by omega) (marks_nil v9) (marks_nil v9)
              rw [decide_eq_true (rfl : ([] : List MarkD) = [])] at C10
              clear hF C9
              go_wp2_with fail
              refine C10.mono ?_
              rintro e v10 ⟨rfl, hF⟩
              have F12 := Lib.hid (F11.out.trans hF (by simp))
              clear hF C10
              go_wp2_with fail
              go_roundg ((nx + 1 - (kk + 1)).toNat)
              case measure => omega
              case rel => exact ⟨kk + 1, rfl, by omega, by omega, rfl, F89.out.trans F12.out (by simp)⟩
            · have HY := Lib.hid hy
              have F10 := Lib.hid hF
              have M10 := Lib.hid hM
              have hyl : y.m.length ≤ 10 := by
                have hm := (of_mem hy).1
                rw [fits_len (GJ2.out.fit y hm)]
                exact GJ2.out.en _ (getD_memD _ _ (GJ2.out.tp y hm))
              have C9 := D9.out _ hF
              clear hF C8 hy hM hnode D9
              go_wp2_with fail
              refine C9.mono ?_
              rintro e v9 (⟨hno, _⟩ | ⟨z, hz, ar, cr, rfl, hM2, hF⟩)
              · rw [HY.out] at hno; cases hno
              rw [HY.out] at hz
              cases hz
              have F11 := Lib.hid (F10.out.trans hF (by simp))
              have C10 := rsame_any am ar y.m.length y.m.length cm cr y.m y.m v9 (by omega) (by omega) (M10.out.fr hF) hM2
              rw [decide_eq_true (rfl : y.m = y.m)] at C10
              clear hF C9 hM2
              go_wp2_with fail
              refine C10.mono ?_
              rintro e v10 ⟨rfl, hF⟩
              have F12 := Lib.hid (F11.out.trans hF (by simp))
              clear hF C10
              go_wp2_with fail
              go_roundg ((nx + 1 - (kk + 1)).toNat)
              case measure => omega
              case rel => exact ⟨kk + 1, rfl, by omega, by omega, rfl, F89.out.trans F12.out (by simp)⟩
          · have dk : decide (kk ≤ (nx : Int)) = false := decide_eq_false hkn
            go_wp2_with fail
            go_roundg (N - (j + 1))
            case measure => omega
            case rel => exact ⟨j + 1, S7, rfl, by omega, rfl, by rw [HP1.out]; exact IS9.out, HS7.out, F9.out⟩
    · have hjN : j = N := by omega
      by_cases h1 : j < len1
      · have d1 : decide (j < len1) = true := decide_eq_true h1
        have d2 : decide ((j : Int) < 80) = false := decide_eq_false (by have := HN.out; omega)
        clear hjn hjN h1
        go_wp2_with fail
        go_ret
        exact ⟨rfl, F.out.nil_below⟩
      · have d1 : decide (j < len1) = false := decide_eq_false h1
        clear hjn hjN h1
        go_wp2_with fail
        go_ret
        exact ⟨rfl, F.out.nil_below⟩
end Go.Proofs.Ytclkahggfdnpgaa

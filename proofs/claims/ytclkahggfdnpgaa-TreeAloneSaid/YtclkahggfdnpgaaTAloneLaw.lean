/- A tree without calls is its first template's marking: the walk. (Printed by genalone.py.) -/
import Derived.Test.YtclkahggfdnpgaaTr21
import Derived.Test.YtclkahggfdnpgaaTrA
set_option linter.unusedVariables false
set_option linter.unusedSimpArgs false
namespace Go.Proofs.Ytclkahggfdnpgaa
open Go.RowKit
set_option maxRecDepth 100000 in
set_option maxHeartbeats 4000000 in
theorem treeAlone_walk (p : ProgD) (a1 : Option Addr) (len1 cap1 : Nat) (L : List ActD) (W : World) (hp : ProgIn W p) (hL : ActsAt W a1 len1 L) :
    Calls Try.prog 13 #[p.val, .slice a1 len1 cap1] W fun e w' => e = .returned (.bool true) ∧ Below W.heap.size W w' := by
  have hr := (Fr.refl [] W).alloc (.cells #[.slice p.pa p.Fs.length p.pc, .slice p.ca p.Cs.length p.cc] 62)
  have HR := Lib.hid hr
  have RB := Lib.hid (Row.new W [.slice p.pa p.Fs.length p.pc, .slice p.ca p.Cs.length p.cc] 62)
  have HP := Lib.hid hp
  have HL := Lib.hid hL
  clear hp hL hr
  obtain ⟨pn, hpn⟩ : ∃ n, n = p.Fs.length := ⟨_, rfl⟩
  obtain ⟨cn, hcn⟩ : ∃ n, n = p.Cs.length := ⟨_, rfl⟩
  have hval : p.val = .agg #[.slice p.pa pn p.pc, .slice p.ca cn p.cc] := by rw [hpn, hcn]; rfl
  have HVAL := Lib.hid hval
  rw [hval]
  rw [← hpn, ← hcn] at HR RB
  have HPN := Lib.hid hpn
  clear hval hpn hcn
  go_enter Try.func13, Try.ntmps13
  go_wp2_with fail
  refine (awake19_any _).mono ?_
  rintro e w1 ⟨rfl, hF1⟩
  have F1 := Lib.hid (HR.out.trans hF1 (by simp))
  have RB1 := Lib.hid (RB.out.fr hF1 (by simp))
  have x0 := RB1.out.cell 0
  have x1 := RB1.out.cell 1
  clear hF1
  have C2 := large19_any p w1 (HP.out.fr F1.out)
  rw [HVAL.out] at C2
  go_wp2_with fail
  refine C2.mono ?_
  rintro e w2 ⟨rfl, hF2⟩
  have F2 := Lib.hid (F1.out.trans hF2 (by simp))
  have RB2 := Lib.hid (RB1.out.fr hF2 (by simp))
  have y0 := RB2.out.cell 0
  have y1 := RB2.out.cell 1
  clear hF2 C2 x0 x1 RB RB1 F1 HR
  by_cases hl : bigP p = true
  · rw [hl]
    go_wp2_with fail
    go_ret
    exact ⟨rfl, F2.out.nil_below⟩
  have hl : bigP p = false := by simpa using hl
  have PA := Lib.hid (HP.out.at_ hl)
  rw [hl]
  clear hl
  have PL := Lib.hid (⟨PA.out.1.rows, PA.out.1.flats, ⟨fun h => absurd h (by show ¬ 0 < 0; omega)⟩, PA.out.1.few, by show 0 ≤ 20; omega⟩ : ProgAt W ⟨p.pa, p.pc, p.Fs, none, 0, []⟩)
  have C3 := new_is ⟨p.pa, p.pc, p.Fs, none, 0, []⟩ w2 (PL.out.fr F2.out) PA.out.2
  rw [show ProgD.val ⟨p.pa, p.pc, p.Fs, none, 0, []⟩ = .agg #[.slice p.pa pn p.pc, .slice none 0 0] by rw [HPN.out]; rfl] at C3
  go_wp2_with fail
  refine C3.mono ?_
  rintro e w3 (⟨hm, rfl, hF⟩ | ⟨hm, tb, hi, S0, rfl, hIS, hG, hS, hF⟩)
  · have F3 := Lib.hid (F2.out.trans hF (by simp))
    have RB3 := Lib.hid (RB2.out.fr hF (by simp))
    have z0 := RB3.out.cell 0
    have z1 := RB3.out.cell 1
    change mayB p.Fs [] = false at hm
    rw [may_alone, ← HPN.out] at hm
    clear hF C3 y0 y1
    by_cases h0 : pn = 0
    · have d0 : ((pn : Int) == 0) = true := by rw [h0]; rfl
      have HX := Lib.hid h0
      clear hm h0
      go_wp2_with fail
      go_ret
      exact ⟨rfl, F3.out.nil_below⟩
    · have d0 : ((pn : Int) == 0) = false := by rw [beq_eq_false_iff_ne]; omega
      have h8 : 8 < pn := by
        rw [decide_eq_true (show 1 ≤ pn by omega), Bool.true_and, decide_eq_false_iff_not] at hm
        omega
      have d1 : decide ((8 : Int) < (pn : Int)) = true := decide_eq_true (by omega)
      clear hm h0
      go_wp2_with fail
      go_ret
      exact ⟨rfl, F3.out.nil_below⟩
  have F3 := Lib.hid (F2.out.trans hF (by simp))
  have RB3 := Lib.hid (RB2.out.fr hF (by simp))
  have IS0 := Lib.hid hIS
  have G := Lib.hid hG
  have HS0 := Lib.hid (fun y hy => Nat.le_trans F2.out.size (hS y hy) : ∀ y ∈ S0, W.heap.size ≤ y)
  have hpn1 : 1 ≤ pn := by
    change mayB p.Fs [] = true at hm
    rw [may_alone, ← HPN.out] at hm
    simp at hm
    omega
  clear hIS hG hS hF C3 y0 y1 hm
  have z0 := RB3.out.cell 0
  have z1 := RB3.out.cell 1
  obtain ⟨gt, ot, hpa, hgt, hct⟩ := (PA.out.1.rows.fr F3.out).at_ (by rw [← HPN.out]; omega)
  have hcx := hct 0 (by rw [← HPN.out]; omega)
  obtain ⟨f, hf⟩ : ∃ f, p.Fs.getD 0 default = f := ⟨_, rfl⟩
  have hfm : f ∈ p.Fs := by rw [← hf]; exact getD_memD _ _ (by rw [← HPN.out]; omega)
  have FW := Lib.hid (PA.out.1.flats f hfm)
  have hen : f.en ≤ 10 := PA.out.2 f hfm
  obtain ⟨Fs, hFs⟩ : ∃ Fs, p.Fs.map FlatD.nrm = Fs := ⟨_, rfl⟩
  have HF0 := Lib.hid (show Fs.getD 0 default = f.nrm by rw [← hFs, getD_nrm, hf])
  change Hid (TreeIs w3 tb hi S0 (newPT p.Fs [])) at IS0
  change Hid (GoodP (newPT p.Fs []) 1) at G
  rw [newPT_lone, hFs, hf] at IS0 G
  rw [hf] at hcx
  have hc' : ∀ k v, ([.slice f.ea f.en f.ec, .slice f.ta f.tn f.tc] : List Value)[k]? = some v → w3.cell? ⟨gt, ot + k, none⟩ = some v := by
    intro k v hk
    have := hcx k v hk
    rwa [show ot + 0 * 2 + k = ot + k by omega] at this
  have HC := Lib.hid hc'
  rw [hpa] at z0 RB3 ⊢
  clear hcx hct hc' hf hfm hFs hgt
  go_wp2_with (first | ((with_reducible refine wpList_load_at rfl 25 (.tmp 46) rfl agg25 2 size25 gt ot [.slice f.ea f.en f.ec, .slice f.ta f.tn f.tc] rfl HC.out ?_ ?_); exact rfl) | ((with_reducible refine wpList_var_agg rfl rfl 25 (.tmp 7) (.tmp 47) rfl rfl 2 zero25 [.slice f.ea f.en f.ec, .slice f.ta f.tn f.tc] rfl ?_ ?_ ?_ ?_); (intro u hu; simp at hu; rcases hu with rfl | rfl <;> rfl); exact rfl; exact rfl))
  intro w4 hr4 hs4 hf4
  have F4 := Lib.hid (F3.out.trans hf4 (by simp))
  have IS4 := Lib.hid (IS0.out.fr hf4)
  have x0 := hr4.cell 0
  have x1 := hr4.cell 1
  have BX4 := Lib.hid (Apart.mk1 IS0.out hf4 (Nat.le_refl _) (by omega))
  obtain ⟨bx, hbx⟩ : ∃ b, w3.heap.size = b := ⟨_, rfl⟩
  rw [hbx] at x0 x1 BX4 ⊢
  have C4 := start_fresh f w4 (FW.out.fr F4.out)
  unfold FlatD.val at C4
  clear hr4 hs4 hf4 hbx z0 z1
  go_wp2_with fail
  refine C4.mono ?_
  rintro e w5 ⟨a5, c5, rfl, hM, hF, hfr⟩
  have F5 := Lib.hid (F4.out.trans hF (by simp))
  have IS5 := Lib.hid (IS4.out.fr hF)
  have M5 := Lib.hid hM
  have AM5 := Lib.hid (Apart.new IS4.out (fun g o _ he => hfr g o he) hM.2.lt)
  have BX5 := Lib.hid (BX4.out.fr hF)
  have X0 := Lib.hid (cell_fr' x0 hF)
  have X1 := Lib.hid (cell_fr' x1 hF)
  clear hM hF hfr C4 x0 x1
  go_wp2_with fail
  obtain ⟨N, hN⟩ : ∃ N, N = min len1 80 := ⟨_, rfl⟩
  have hN80 : N ≤ 80 := by omega
  have hNl : N ≤ len1 := by omega
  have HN := Lib.hid hN
  clear hN
  go_loopg [8, 9, 10] N (fun k m i bt wr => ∃ (j : Nat) (S : List Nat) (a : Option Addr) (c : Nat) (M : List MarkD), k = N - j ∧ j ≤ N ∧ m = .slice a f.en c ∧ i = .int .i64 j ∧ TreeIs wr tb hi S (lone Fs M) ∧ GoodP (lone Fs M) 1 ∧ MarksAt wr a f.en M ∧ Apart a f.en wr S ∧ Apart (some ⟨bx, 0, none⟩) 1 wr S ∧ wr.cell? ⟨bx, 0, none⟩ = some (.slice f.ea f.en f.ec) ∧ wr.cell? ⟨bx, 1, none⟩ = some (.slice f.ta f.tn f.tc) ∧ (∀ y ∈ S, W.heap.size ≤ y) ∧ Fr [] W wr)
  case atStart => exact ⟨0, S0, a5, c5, _, rfl, by omega, rfl, rfl, IS5.out, G.out, M5.out, AM5.out, BX5.out, X0.out, X1.out, HS0.out, F5.out⟩
  case round =>
    obtain ⟨j, S, a, c, M, rfl, hj, rfl, rfl, hIS, hG, hM, hA, hB, hx0, hx1, hS, hF⟩ := hrel
    have IS := Lib.hid hIS
    have GM := Lib.hid hG
    have MM := Lib.hid hM
    have AM := Lib.hid hA
    have BX := Lib.hid hB
    have X0 := Lib.hid hx0
    have X1 := Lib.hid hx1
    have HS := Lib.hid hS
    have F := Lib.hid hF
    clear hIS hG hM hA hB hx0 hx1 hS hF
    by_cases hjn : j < N
    · have d1 : decide (j < len1) = true := decide_eq_true (by omega)
      have d2 : decide ((j : Int) < 80) = true := decide_eq_true (by omega)
      obtain ⟨gl, ol, ha, hgl, hcl⟩ := (HL.out.rows.fr F.out).at_ (by omega)
      have hcx := hcl j (by omega)
      obtain ⟨x, hx⟩ : ∃ x, L.getD j default = x := ⟨_, rfl⟩
      rw [hx] at hcx
      obtain ⟨xk, xi, xa⟩ := x
      have hc' : ∀ k v, ([.int .i64 xk, .int .i64 xi, .int .i64 xa] : List Value)[k]? = some v → wr.cell? ⟨gl, ol + j * 3 + k, none⟩ = some v := hcx
      have HC2 := Lib.hid hc'
      subst ha
      clear hcl hcx hc' hx hgl
      go_wp2_with (first | ((with_reducible refine wpList_load_at rfl 77 (.tmp 62) rfl agg77 3 size77 gl (ol + j * 3) [.int .i64 xk, .int .i64 xi, .int .i64 xa] rfl HC2.out ?_ ?_); exact rfl) | ((with_reducible refine wpList_var_agg rfl rfl 77 (.tmp 10) (.tmp 63) rfl rfl 3 zero77 [.int .i64 xk, .int .i64 xi, .int .i64 xa] rfl ?_ ?_ ?_ ?_); (intro u hu; simp at hu; rcases hu with rfl | rfl | rfl <;> rfl); exact rfl; exact rfl))
      intro w5 hr5 hs5 hf5
      have F5 := Lib.hid (F.out.trans hf5 (by simp))
      have IS5 := Lib.hid (IS.out.fr hf5)
      have M5 := Lib.hid (MM.out.fr hf5)
      have A5 := Lib.hid (AM.out.fr hf5)
      have BX5 := Lib.hid (BX.out.fr hf5)
      have TX5 := Lib.hid (Apart.mk1 IS.out hf5 (Nat.le_refl _) (by omega))
      have t0 := hr5.cell 0
      have t1 := hr5.cell 1
      have t2 := hr5.cell 2
      have X05 := Lib.hid (cell_fr' X0.out hf5)
      have X15 := Lib.hid (cell_fr' X1.out hf5)
      obtain ⟨tx, htx⟩ : ∃ b, wr.heap.size = b := ⟨_, rfl⟩
      rw [htx] at t0 t1 t2 TX5 ⊢
      have T0 := Lib.hid t0
      have T1 := Lib.hid t1
      have T2 := Lib.hid t2
      have HFIT := Lib.hid (lone_fits GM.out)
      have HLEN := Lib.hid (MM.out.1)
      clear hr5 hs5 hf5 htx
      by_cases hk0 : xk = 0
      · subst hk0
        by_cases hi0 : xi = 0
        · subst hi0
          by_cases hE : doE f M xa = 0
          · have HE := Lib.hid hE
            have ea : actF (lone Fs M) 0 0 xa = (-1, 0, lone Fs (doM f M xa.toNat)) := by
              show doF (lone Fs M) 0 xa = _
              have := lone_do0 (Fs := Fs) (M := M) (at' := xa) (by rw [HF0.out]; exact hE)
              rw [HF0.out] at this
              exact this
            clear hE
            have C5 := act_is IS5.out GM.out (by omega) 0 0 xa
            rw [ea] at C5
            go_wp2_with fail
            refine C5.mono ?_
            rintro e w6 ⟨rfl, S6, hIS, hF, hS⟩
            have IS6 := Lib.hid hIS
            have HS6 := Lib.hid (fun y hy => (by rcases hS y hy with h | h; exact HS.out y h; exact Nat.le_trans F5.out.size h) : ∀ y ∈ S6, W.heap.size ≤ y)
            have F6 := Lib.hid (F5.out.trans hF (fun y hy => .inr (HS.out y hy)))
            have M6 := Lib.hid (M5.out.next hF A5.out)
            have A6 := Lib.hid (A5.out.next hF hS)
            have BX6 := Lib.hid (BX5.out.next hF hS)
            have x0 := (cell_frA BX5.out hF 0).trans X05.out
            have x1 := (cell_frA BX5.out hF 1).trans X15.out
            have t0 := (cell_frA TX5.out hF 0).trans T0.out
            have t1 := (cell_frA TX5.out hF 1).trans T1.out
            have t2 := (cell_frA TX5.out hF 2).trans T2.out
            clear hIS hF hS C5
            have C7 := do_fresh f a f.en c M xa w6 (FW.out.fr F6.out) M6.out (by omega)
            rw [HE.out] at C7
            unfold FlatD.val at C7
            have hfn := do_fits f M xa.toNat (by have := HFIT.out; rw [HF0.out] at this; exact this)
            have C7b := C7.mono fun e w' h => nextF_ok0 h
            have FN := Lib.hid hfn
            clear C7 hfn ea
            go_wp2_with fail
            refine C7b.mono ?_
            intro e w7 hNO
            obtain ⟨a7, c7, rfl, hM7, hF, hfr⟩ := hNO
            rw [fits_len FN.out] at hM7 ⊢
            have N7 := Lib.hid hM7
            have AN7 := Lib.hid (Apart.new IS6.out (fun g o _ he => hfr g o he) hM7.2.lt)
            have GN := Lib.hid (lone_good GM.out (N := doM f M xa.toNat) (by rw [HF0.out]; exact FN.out))
            have F7 := Lib.hid (F6.out.trans hF (by simp))
            have IS7 := Lib.hid (IS6.out.fr hF)
            have BX7 := Lib.hid (BX6.out.fr hF)
            have X07 := Lib.hid (cell_fr' x0 hF)
            have X17 := Lib.hid (cell_fr' x1 hF)
            have HS7 := HS6
            clear hF hfr hM7 C7b x0 x1 t0 t1 t2
            have C8 := lone_mark IS7.out GN.out (by omega) (N7.out.1)
            go_wp2_with fail
            refine C8.mono ?_
            rintro e w8 ⟨am, cm, rfl, hM8, hF⟩
            have F8 := Lib.hid (F7.out.trans hF (by simp))
            have F78 := Lib.hid hF
            have KP := Lib.hid (fun w' (g : Fr [] w8 w') => (⟨cell_fr' (cell_fr' X07.out hF) g, cell_fr' (cell_fr' X17.out hF) g⟩ : w'.cell? ⟨bx, 0, none⟩ = some (.slice f.ea f.en f.ec) ∧ w'.cell? ⟨bx, 1, none⟩ = some (.slice f.ta f.tn f.tc)))
            have D1 := Lib.hid (fun w' (g : Fr [] w8 w') => (by
              have := marksame_any am a7 f.en f.en cm c7 (doM f M xa.toNat) (doM f M xa.toNat) w' (by omega) (by omega) (hM8.fr g) ((N7.out.fr hF).fr g)
              rwa [decide_eq_true (rfl : (doM f M xa.toNat) = (doM f M xa.toNat))] at this : Calls Try.prog 61 #[.slice am f.en cm, .slice a7 f.en c7] w' fun e w'' => e = .returned (.bool true) ∧ Fr [] w' w''))
            obtain ⟨ba, hba⟩ : ∃ b, accB f.en (doM f M xa.toNat) = b := ⟨_, rfl⟩
            have D2 := Lib.hid (fun w' (g : Fr [] w8 w') => (by
              have := done_is ((IS7.out.fr hF).fr g) GN.out (by omega)
              rwa [lone_done, HF0.out, show accB f.nrm.en (doM f M xa.toNat) = ba from hba] at this : Calls Try.prog 56 #[.pointer (some ⟨tb, 0, none⟩)] w' fun e w'' => e = .returned (.bool ba) ∧ Fr [] w' w''))
            have D3 := Lib.hid (fun w' (g : Fr [] w8 w') => (by
              have := acc_any f a7 f.en c7 (doM f M xa.toNat) w' ((N7.out.fr hF).fr g) (by omega)
              rwa [hba] at this : Calls Try.prog 24 #[.agg #[.slice f.ea f.en f.ec, .slice f.ta f.tn f.tc], .slice a7 f.en c7] w' fun e w'' => e = .returned (.bool ba) ∧ Fr [] w' w''))
            clear hF hM8 C8 hba
            go_wp2_with fail
            refine wp_region_held_drew (S := (fun w' => w'.cell? ⟨bx, 0, none⟩ = some (.slice f.ea f.en f.ec) ∧ w'.cell? ⟨bx, 1, none⟩ = some (.slice f.ta f.tn f.tc))) (by kernel_rfl) (KP.out _ ((Fr.refl [] w8).drew)) (fun hHeld => ?_)
            refine wpAnyH_take (i := 0) (v := ?_) rfl (by kernel_rfl) (by kernel_rfl) (by kernel_rfl) (fun _ _ _ h => h) (Or.inl ⟨rfl, ?_⟩) hHeld ?_
            rotate_left
            · (intro w hSw; (try dsimp only at hSw); go_simp; try (with_reducible rfl))
            simp only [List.getElem_toArray, List.getElem_cons_succ, List.getElem_cons_zero, Act.put, List.setIfInBounds_toArray, List.set_cons_zero, List.set_cons_succ]
            refine wpAnyH_take (i := 1) (v := ?_) rfl (by kernel_rfl) (by kernel_rfl) (by kernel_rfl) (fun _ _ _ h => h) (Or.inl ⟨rfl, ?_⟩) hHeld ?_
            rotate_left
            · (intro w hSw; (try dsimp only at hSw); go_simp; try (with_reducible rfl))
            simp only [List.getElem_toArray, List.getElem_cons_succ, List.getElem_cons_zero, Act.put, List.setIfInBounds_toArray, List.set_cons_zero, List.set_cons_succ]
            refine wpAnyH_take (i := 2) (v := ?_) rfl (by kernel_rfl) (by kernel_rfl) (by kernel_rfl) (fun _ _ _ h => h) (Or.inl ⟨rfl, ?_⟩) hHeld ?_
            rotate_left
            · (intro w hSw; (try dsimp only at hSw); go_simp; try (with_reducible rfl))
            simp only [List.getElem_toArray, List.getElem_cons_succ, List.getElem_cons_zero, Act.put, List.setIfInBounds_toArray, List.set_cons_zero, List.set_cons_succ]
            refine wpAnyH_take (i := 3) (v := ?_) rfl (by kernel_rfl) (by kernel_rfl) (by kernel_rfl) (fun _ _ _ h => h) (Or.inl ⟨rfl, ?_⟩) hHeld ?_
            rotate_left
            · (intro w hSw; (try dsimp only at hSw); go_simp; try (with_reducible rfl))
            simp only [List.getElem_toArray, List.getElem_cons_succ, List.getElem_cons_zero, Act.put, List.setIfInBounds_toArray, List.set_cons_zero, List.set_cons_succ]
            refine wpAnyH_take (i := 4) (v := ?_) rfl (by kernel_rfl) (by kernel_rfl) (by kernel_rfl) (fun _ _ _ h => h) (Or.inl ⟨rfl, ?_⟩) hHeld ?_
            rotate_left
            · (intro w hSw; (try dsimp only at hSw); go_simp; try (with_reducible rfl))
            simp only [List.getElem_toArray, List.getElem_cons_succ, List.getElem_cons_zero, Act.put, List.setIfInBounds_toArray, List.set_cons_zero, List.set_cons_succ]
            refine wpAnyH_ready (rs := [5]) (by kernel_rfl) (by simp) ?_
            refine AllReadyH.cons rfl (fun K hK => ?_) AllReadyH.nil
            simp only [List.getElem_toArray, List.getElem_cons_succ, List.getElem_cons_zero]
            go_simp
            go_wp2_with (first | (go_at_call 61; refine (D1.out _ ((Fr.refl [] w8).drew)).mono ?_; rintro e v1 ⟨rfl, hG1⟩))
            refine hK.out _ _ (by first | (exact KP.out _ (((Fr.refl [] w8).drew).trans hG1 (by simp))) | go_keep) (fun hHeld => ?_)
            clear hK K
            refine wpAnyH_take (i := 6) (v := ?_) rfl (by kernel_rfl) (by kernel_rfl) (by kernel_rfl) (fun _ _ _ h => h) (Or.inl ⟨rfl, ?_⟩) hHeld ?_
            rotate_left
            · (intro w hSw; (try dsimp only at hSw); go_simp; try (with_reducible rfl))
            simp only [List.getElem_toArray, List.getElem_cons_succ, List.getElem_cons_zero, Act.put, List.setIfInBounds_toArray, List.set_cons_zero, List.set_cons_succ]
            refine wpAnyH_take (i := 7) (v := ?_) rfl (by kernel_rfl) (by kernel_rfl) (by kernel_rfl) (fun _ _ _ h => h) (Or.inl ⟨rfl, ?_⟩) hHeld ?_
            rotate_left
            · (intro w hSw; (try dsimp only at hSw); go_simp; try (with_reducible rfl))
            simp only [List.getElem_toArray, List.getElem_cons_succ, List.getElem_cons_zero, Act.put, List.setIfInBounds_toArray, List.set_cons_zero, List.set_cons_succ]
            refine wpAnyH_take (i := 8) (v := ?_) rfl (by kernel_rfl) (by kernel_rfl) (by kernel_rfl) (fun _ _ _ h => h) (Or.inl ⟨rfl, ?_⟩) hHeld ?_
            rotate_left
            · (intro w hSw; (try dsimp only at hSw); go_simp; try (with_reducible rfl))
            simp only [List.getElem_toArray, List.getElem_cons_succ, List.getElem_cons_zero, Act.put, List.setIfInBounds_toArray, List.set_cons_zero, List.set_cons_succ]
            refine wpAnyH_take (i := 9) (v := ?_) rfl (by kernel_rfl) (by kernel_rfl) (by kernel_rfl) (fun _ _ _ h => h) (Or.inl ⟨rfl, ?_⟩) hHeld ?_
            rotate_left
            · (intro w hSw; (try dsimp only at hSw); go_simp; try (with_reducible rfl))
            simp only [List.getElem_toArray, List.getElem_cons_succ, List.getElem_cons_zero, Act.put, List.setIfInBounds_toArray, List.set_cons_zero, List.set_cons_succ]
            refine wpAnyH_take (i := 11) (v := ?_) rfl (by kernel_rfl) (by kernel_rfl) (by kernel_rfl) (fun _ _ _ h => h) (Or.inl ⟨rfl, ?_⟩) hHeld ?_
            rotate_left
            · (intro w hSw; (try dsimp only at hSw); go_simp; try (with_reducible rfl))
            simp only [List.getElem_toArray, List.getElem_cons_succ, List.getElem_cons_zero, Act.put, List.setIfInBounds_toArray, List.set_cons_zero, List.set_cons_succ]
            refine wpAnyH_take (i := 12) (v := ?_) rfl (by kernel_rfl) (by kernel_rfl) (by kernel_rfl) (fun _ _ _ h => h) (Or.inl ⟨rfl, ?_⟩) hHeld ?_
            rotate_left
            · (intro w hSw; (try dsimp only at hSw); go_simp; try (with_reducible rfl))
            simp only [List.getElem_toArray, List.getElem_cons_succ, List.getElem_cons_zero, Act.put, List.setIfInBounds_toArray, List.set_cons_zero, List.set_cons_succ]
            refine wpAnyH_ready (rs := [10]) (by kernel_rfl) (by simp) ?_
            refine AllReadyH.cons rfl (fun K hK => ?_) AllReadyH.nil
            simp only [List.getElem_toArray, List.getElem_cons_succ, List.getElem_cons_zero]
            go_simp
            go_wp2_with (first | (go_at_call 56; refine (D2.out _ (((Fr.refl [] w8).drew).trans hG1 (by simp))).mono ?_; rintro e v2 ⟨rfl, hG2⟩))
            refine hK.out _ _ (by first | (exact KP.out _ ((((Fr.refl [] w8).drew).trans hG1 (by simp)).trans hG2 (by simp))) | go_keep) (fun hHeld => ?_)
            clear hK K
            refine wpAnyH_ready (rs := [13]) (by kernel_rfl) (by simp) ?_
            refine AllReadyH.cons rfl (fun K hK => ?_) AllReadyH.nil
            simp only [List.getElem_toArray, List.getElem_cons_succ, List.getElem_cons_zero]
            go_simp
            go_wp2_with (first | (go_at_call 24; refine (D3.out _ ((((Fr.refl [] w8).drew).trans hG1 (by simp)).trans hG2 (by simp))).mono ?_; rintro e v3 ⟨rfl, hG3⟩))
            refine hK.out _ _ (by first | (exact KP.out _ (((((Fr.refl [] w8).drew).trans hG1 (by simp)).trans hG2 (by simp)).trans hG3 (by simp))) | go_keep) (fun hHeld => ?_)
            clear hK K
            refine wpAnyH_take (i := 14) (v := ?_) rfl (by kernel_rfl) (by kernel_rfl) (by kernel_rfl) (fun _ _ _ h => h) (Or.inl ⟨rfl, ?_⟩) hHeld ?_
            rotate_left
            · (intro w hSw; (try dsimp only at hSw); go_simp; try (with_reducible rfl))
            simp only [List.getElem_toArray, List.getElem_cons_succ, List.getElem_cons_zero, Act.put, List.setIfInBounds_toArray, List.set_cons_zero, List.set_cons_succ]
            refine wpAnyH_take (i := 15) (v := ?_) rfl (by kernel_rfl) (by kernel_rfl) (by kernel_rfl) (fun _ _ _ h => h) (Or.inl ⟨rfl, ?_⟩) hHeld ?_
            rotate_left
            · (intro w hSw; (try dsimp only at hSw); go_simp; try (with_reducible rfl))
            simp only [List.getElem_toArray, List.getElem_cons_succ, List.getElem_cons_zero, Act.put, List.setIfInBounds_toArray, List.set_cons_zero, List.set_cons_succ]
            refine wpAnyH_done (by kernel_rfl) ?_ _
            have FZ := Lib.hid (F78.out.trans (((((Fr.refl [] w8).drew).trans hG1 (by simp)).trans hG2 (by simp)).trans hG3 (by simp)) (by simp))
            clear hG1 hG2 hG3 KP D1 D2 D3 hHeld
            go_wp2_with fail
            go_roundg (N - (j + 1))
            case measure => omega
            case rel => exact ⟨j + 1, S6, _, _, _, rfl, by omega, rfl, rfl, IS7.out.fr FZ.out, GN.out, N7.out.fr FZ.out, AN7.out.fr FZ.out, BX7.out.fr FZ.out, cell_fr' X07.out FZ.out, cell_fr' X17.out FZ.out, HS7.out, F7.out.trans FZ.out (by simp)⟩
          · obtain ⟨E, hEE⟩ : ∃ E, doE f M xa = E := ⟨_, rfl⟩
            have ea : actF (lone Fs M) 0 0 xa = (0, E, lone Fs M) := by
              show doF (lone Fs M) 0 xa = _
              have := lone_doE (Fs := Fs) (M := M) (at' := xa) HFIT.out (by rw [HF0.out]; exact hE)
              rw [HF0.out] at this
              rw [← hEE]
              exact this
            rw [hEE] at hE
            have HEE := Lib.hid hEE
            have HE := Lib.hid hE
            clear hE hEE
            have C5 := act_is IS5.out GM.out (by omega) 0 0 xa
            rw [ea] at C5
            go_wp2_with fail
            refine C5.mono ?_
            rintro e w6 ⟨rfl, S6, hIS, hF, hS⟩
            have IS6 := Lib.hid hIS
            have HS6 := Lib.hid (fun y hy => (by rcases hS y hy with h | h; exact HS.out y h; exact Nat.le_trans F5.out.size h) : ∀ y ∈ S6, W.heap.size ≤ y)
            have F6 := Lib.hid (F5.out.trans hF (fun y hy => .inr (HS.out y hy)))
            have M6 := Lib.hid (M5.out.next hF A5.out)
            have A6 := Lib.hid (A5.out.next hF hS)
            have BX6 := Lib.hid (BX5.out.next hF hS)
            have x0 := (cell_frA BX5.out hF 0).trans X05.out
            have x1 := (cell_frA BX5.out hF 1).trans X15.out
            have t0 := (cell_frA TX5.out hF 0).trans T0.out
            have t1 := (cell_frA TX5.out hF 1).trans T1.out
            have t2 := (cell_frA TX5.out hF 2).trans T2.out
            clear hIS hF hS C5
            have C7 := do_fresh f a f.en c M xa w6 (FW.out.fr F6.out) M6.out (by omega)
            rw [HEE.out] at C7
            unfold FlatD.val at C7
            have C7b := C7.mono fun e w' h => nextF_bad HE.out h
            have gE : (E != E) = false := by simp
            have gE0 : (E == 0) = false := by rw [beq_eq_false_iff_ne]; exact HE.out
            clear C7 ea
            go_wp2_with fail
            refine C7b.mono ?_
            rintro e w7 ⟨a7, c7, rfl, hF⟩
            have N7 := Lib.hid (M6.out.fr hF)
            have AN7 := Lib.hid (A6.out.fr hF)
            have GN := GM
            have F7 := Lib.hid (F6.out.trans hF (by simp))
            have IS7 := Lib.hid (IS6.out.fr hF)
            have BX7 := Lib.hid (BX6.out.fr hF)
            have X07 := Lib.hid (cell_fr' x0 hF)
            have X17 := Lib.hid (cell_fr' x1 hF)
            have HS7 := HS6
            clear hF C7b x0 x1 t0 t1 t2
            have C8 := lone_mark IS7.out GN.out (by omega) (N7.out.1)
            go_wp2_with fail
            refine C8.mono ?_
            rintro e w8 ⟨am, cm, rfl, hM8, hF⟩
            have F8 := Lib.hid (F7.out.trans hF (by simp))
            have F78 := Lib.hid hF
            have KP := Lib.hid (fun w' (g : Fr [] w8 w') => (⟨cell_fr' (cell_fr' X07.out hF) g, cell_fr' (cell_fr' X17.out hF) g⟩ : w'.cell? ⟨bx, 0, none⟩ = some (.slice f.ea f.en f.ec) ∧ w'.cell? ⟨bx, 1, none⟩ = some (.slice f.ta f.tn f.tc)))
            have D1 := Lib.hid (fun w' (g : Fr [] w8 w') => (by
              have := marksame_any am a f.en f.en cm c (M) (M) w' (by omega) (by omega) (hM8.fr g) ((N7.out.fr hF).fr g)
              rwa [decide_eq_true (rfl : (M) = (M))] at this : Calls Try.prog 61 #[.slice am f.en cm, .slice a f.en c] w' fun e w'' => e = .returned (.bool true) ∧ Fr [] w' w''))
            obtain ⟨ba, hba⟩ : ∃ b, accB f.en (M) = b := ⟨_, rfl⟩
            have D2 := Lib.hid (fun w' (g : Fr [] w8 w') => (by
              have := done_is ((IS7.out.fr hF).fr g) GN.out (by omega)
              rwa [lone_done, HF0.out, show accB f.nrm.en (M) = ba from hba] at this : Calls Try.prog 56 #[.pointer (some ⟨tb, 0, none⟩)] w' fun e w'' => e = .returned (.bool ba) ∧ Fr [] w' w''))
            have D3 := Lib.hid (fun w' (g : Fr [] w8 w') => (by
              have := acc_any f a f.en c (M) w' ((N7.out.fr hF).fr g) (by omega)
              rwa [hba] at this : Calls Try.prog 24 #[.agg #[.slice f.ea f.en f.ec, .slice f.ta f.tn f.tc], .slice a f.en c] w' fun e w'' => e = .returned (.bool ba) ∧ Fr [] w' w''))
            clear hF hM8 C8 hba
            go_wp2_with fail
            refine wp_region_held_drew (S := (fun w' => w'.cell? ⟨bx, 0, none⟩ = some (.slice f.ea f.en f.ec) ∧ w'.cell? ⟨bx, 1, none⟩ = some (.slice f.ta f.tn f.tc))) (by kernel_rfl) (KP.out _ ((Fr.refl [] w8).drew)) (fun hHeld => ?_)
            refine wpAnyH_take (i := 0) (v := ?_) rfl (by kernel_rfl) (by kernel_rfl) (by kernel_rfl) (fun _ _ _ h => h) (Or.inl ⟨rfl, ?_⟩) hHeld ?_
            rotate_left
            · (intro w hSw; (try dsimp only at hSw); go_simp; try (with_reducible rfl))
            simp only [List.getElem_toArray, List.getElem_cons_succ, List.getElem_cons_zero, Act.put, List.setIfInBounds_toArray, List.set_cons_zero, List.set_cons_succ]
            refine wpAnyH_take (i := 1) (v := ?_) rfl (by kernel_rfl) (by kernel_rfl) (by kernel_rfl) (fun _ _ _ h => h) (Or.inl ⟨rfl, ?_⟩) hHeld ?_
            rotate_left
            · (intro w hSw; (try dsimp only at hSw); go_simp; try (with_reducible rfl))
            simp only [List.getElem_toArray, List.getElem_cons_succ, List.getElem_cons_zero, Act.put, List.setIfInBounds_toArray, List.set_cons_zero, List.set_cons_succ]
            refine wpAnyH_take (i := 2) (v := ?_) rfl (by kernel_rfl) (by kernel_rfl) (by kernel_rfl) (fun _ _ _ h => h) (Or.inl ⟨rfl, ?_⟩) hHeld ?_
            rotate_left
            · (intro w hSw; (try dsimp only at hSw); go_simp; try (with_reducible rfl))
            simp only [List.getElem_toArray, List.getElem_cons_succ, List.getElem_cons_zero, Act.put, List.setIfInBounds_toArray, List.set_cons_zero, List.set_cons_succ]
            refine wpAnyH_take (i := 3) (v := ?_) rfl (by kernel_rfl) (by kernel_rfl) (by kernel_rfl) (fun _ _ _ h => h) (Or.inl ⟨rfl, ?_⟩) hHeld ?_
            rotate_left
            · (intro w hSw; (try dsimp only at hSw); go_simp; try (with_reducible rfl))
            simp only [List.getElem_toArray, List.getElem_cons_succ, List.getElem_cons_zero, Act.put, List.setIfInBounds_toArray, List.set_cons_zero, List.set_cons_succ]
            refine wpAnyH_take (i := 4) (v := ?_) rfl (by kernel_rfl) (by kernel_rfl) (by kernel_rfl) (fun _ _ _ h => h) (Or.inl ⟨rfl, ?_⟩) hHeld ?_
            rotate_left
            · (intro w hSw; (try dsimp only at hSw); go_simp; try (with_reducible rfl))
            simp only [List.getElem_toArray, List.getElem_cons_succ, List.getElem_cons_zero, Act.put, List.setIfInBounds_toArray, List.set_cons_zero, List.set_cons_succ]
            refine wpAnyH_ready (rs := [5]) (by kernel_rfl) (by simp) ?_
            refine AllReadyH.cons rfl (fun K hK => ?_) AllReadyH.nil
            simp only [List.getElem_toArray, List.getElem_cons_succ, List.getElem_cons_zero]
            go_simp
            go_wp2_with (first | (go_at_call 61; refine (D1.out _ ((Fr.refl [] w8).drew)).mono ?_; rintro e v1 ⟨rfl, hG1⟩))
            refine hK.out _ _ (by first | (exact KP.out _ (((Fr.refl [] w8).drew).trans hG1 (by simp))) | go_keep) (fun hHeld => ?_)
            clear hK K
            refine wpAnyH_take (i := 6) (v := ?_) rfl (by kernel_rfl) (by kernel_rfl) (by kernel_rfl) (fun _ _ _ h => h) (Or.inl ⟨rfl, ?_⟩) hHeld ?_
            rotate_left
            · (intro w hSw; (try dsimp only at hSw); go_simp; try (with_reducible rfl))
            simp only [List.getElem_toArray, List.getElem_cons_succ, List.getElem_cons_zero, Act.put, List.setIfInBounds_toArray, List.set_cons_zero, List.set_cons_succ]
            refine wpAnyH_take (i := 7) (v := ?_) rfl (by kernel_rfl) (by kernel_rfl) (by kernel_rfl) (fun _ _ _ h => h) (Or.inl ⟨rfl, ?_⟩) hHeld ?_
            rotate_left
            · (intro w hSw; (try dsimp only at hSw); go_simp; try (with_reducible rfl))
            simp only [List.getElem_toArray, List.getElem_cons_succ, List.getElem_cons_zero, Act.put, List.setIfInBounds_toArray, List.set_cons_zero, List.set_cons_succ]
            refine wpAnyH_take (i := 8) (v := ?_) rfl (by kernel_rfl) (by kernel_rfl) (by kernel_rfl) (fun _ _ _ h => h) (Or.inl ⟨rfl, ?_⟩) hHeld ?_
            rotate_left
            · (intro w hSw; (try dsimp only at hSw); go_simp; try (with_reducible rfl))
            simp only [List.getElem_toArray, List.getElem_cons_succ, List.getElem_cons_zero, Act.put, List.setIfInBounds_toArray, List.set_cons_zero, List.set_cons_succ]
            refine wpAnyH_take (i := 9) (v := ?_) rfl (by kernel_rfl) (by kernel_rfl) (by kernel_rfl) (fun _ _ _ h => h) (Or.inl ⟨rfl, ?_⟩) hHeld ?_
            rotate_left
            · (intro w hSw; (try dsimp only at hSw); go_simp; try (with_reducible rfl))
            simp only [List.getElem_toArray, List.getElem_cons_succ, List.getElem_cons_zero, Act.put, List.setIfInBounds_toArray, List.set_cons_zero, List.set_cons_succ]
            refine wpAnyH_take (i := 11) (v := ?_) rfl (by kernel_rfl) (by kernel_rfl) (by kernel_rfl) (fun _ _ _ h => h) (Or.inl ⟨rfl, ?_⟩) hHeld ?_
            rotate_left
            · (intro w hSw; (try dsimp only at hSw); go_simp; try (with_reducible rfl))
            simp only [List.getElem_toArray, List.getElem_cons_succ, List.getElem_cons_zero, Act.put, List.setIfInBounds_toArray, List.set_cons_zero, List.set_cons_succ]
            refine wpAnyH_take (i := 12) (v := ?_) rfl (by kernel_rfl) (by kernel_rfl) (by kernel_rfl) (fun _ _ _ h => h) (Or.inl ⟨rfl, ?_⟩) hHeld ?_
            rotate_left
            · (intro w hSw; (try dsimp only at hSw); go_simp; try (with_reducible rfl))
            simp only [List.getElem_toArray, List.getElem_cons_succ, List.getElem_cons_zero, Act.put, List.setIfInBounds_toArray, List.set_cons_zero, List.set_cons_succ]
            refine wpAnyH_ready (rs := [10]) (by kernel_rfl) (by simp) ?_
            refine AllReadyH.cons rfl (fun K hK => ?_) AllReadyH.nil
            simp only [List.getElem_toArray, List.getElem_cons_succ, List.getElem_cons_zero]
            go_simp
            go_wp2_with (first | (go_at_call 56; refine (D2.out _ (((Fr.refl [] w8).drew).trans hG1 (by simp))).mono ?_; rintro e v2 ⟨rfl, hG2⟩))
            refine hK.out _ _ (by first | (exact KP.out _ ((((Fr.refl [] w8).drew).trans hG1 (by simp)).trans hG2 (by simp))) | go_keep) (fun hHeld => ?_)
            clear hK K
            refine wpAnyH_ready (rs := [13]) (by kernel_rfl) (by simp) ?_
            refine AllReadyH.cons rfl (fun K hK => ?_) AllReadyH.nil
            simp only [List.getElem_toArray, List.getElem_cons_succ, List.getElem_cons_zero]
            go_simp
            go_wp2_with (first | (go_at_call 24; refine (D3.out _ ((((Fr.refl [] w8).drew).trans hG1 (by simp)).trans hG2 (by simp))).mono ?_; rintro e v3 ⟨rfl, hG3⟩))
            refine hK.out _ _ (by first | (exact KP.out _ (((((Fr.refl [] w8).drew).trans hG1 (by simp)).trans hG2 (by simp)).trans hG3 (by simp))) | go_keep) (fun hHeld => ?_)
            clear hK K
            refine wpAnyH_take (i := 14) (v := ?_) rfl (by kernel_rfl) (by kernel_rfl) (by kernel_rfl) (fun _ _ _ h => h) (Or.inl ⟨rfl, ?_⟩) hHeld ?_
            rotate_left
            · (intro w hSw; (try dsimp only at hSw); go_simp; try (with_reducible rfl))
            simp only [List.getElem_toArray, List.getElem_cons_succ, List.getElem_cons_zero, Act.put, List.setIfInBounds_toArray, List.set_cons_zero, List.set_cons_succ]
            refine wpAnyH_take (i := 15) (v := ?_) rfl (by kernel_rfl) (by kernel_rfl) (by kernel_rfl) (fun _ _ _ h => h) (Or.inl ⟨rfl, ?_⟩) hHeld ?_
            rotate_left
            · (intro w hSw; (try dsimp only at hSw); go_simp; try (with_reducible rfl))
            simp only [List.getElem_toArray, List.getElem_cons_succ, List.getElem_cons_zero, Act.put, List.setIfInBounds_toArray, List.set_cons_zero, List.set_cons_succ]
            refine wpAnyH_done (by kernel_rfl) ?_ _
            have FZ := Lib.hid (F78.out.trans (((((Fr.refl [] w8).drew).trans hG1 (by simp)).trans hG2 (by simp)).trans hG3 (by simp)) (by simp))
            clear hG1 hG2 hG3 KP D1 D2 D3 hHeld
            go_wp2_with fail
            go_roundg (N - (j + 1))
            case measure => omega
            case rel => exact ⟨j + 1, S6, _, _, _, rfl, by omega, rfl, rfl, IS7.out.fr FZ.out, GN.out, N7.out.fr FZ.out, AN7.out.fr FZ.out, BX7.out.fr FZ.out, cell_fr' X07.out FZ.out, cell_fr' X17.out FZ.out, HS7.out, F7.out.trans FZ.out (by simp)⟩
        · have bi : (xi == 0) = false := by rw [beq_eq_false_iff_ne]; exact hi0
          have ea : actF (lone Fs M) 0 xi xa = (0, 10, lone Fs M) := lone_doN hi0
          clear hi0
          have C5 := act_is IS5.out GM.out (by omega) 0 xi xa
          rw [ea] at C5
          go_wp2_with fail
          refine C5.mono ?_
          rintro e w6 ⟨rfl, S6, hIS, hF, hS⟩
          have IS6 := Lib.hid hIS
          have HS6 := Lib.hid (fun y hy => (by rcases hS y hy with h | h; exact HS.out y h; exact Nat.le_trans F5.out.size h) : ∀ y ∈ S6, W.heap.size ≤ y)
          have F6 := Lib.hid (F5.out.trans hF (fun y hy => .inr (HS.out y hy)))
          have M6 := Lib.hid (M5.out.next hF A5.out)
          have A6 := Lib.hid (A5.out.next hF hS)
          have BX6 := Lib.hid (BX5.out.next hF hS)
          have x0 := (cell_frA BX5.out hF 0).trans X05.out
          have x1 := (cell_frA BX5.out hF 1).trans X15.out
          have t0 := (cell_frA TX5.out hF 0).trans T0.out
          have t1 := (cell_frA TX5.out hF 1).trans T1.out
          have t2 := (cell_frA TX5.out hF 2).trans T2.out
          clear hIS hF hS C5
          clear ea
          have F7 := F6
          have IS7 := IS6
          have N7 := M6
          have AN7 := A6
          have BX7 := BX6
          have X07 := Lib.hid x0
          have X17 := Lib.hid x1
          have HS7 := HS6
          have GN := GM
          have C8 := lone_mark IS7.out GN.out (by omega) (N7.out.1)
          go_wp2_with fail
          refine C8.mono ?_
          rintro e w8 ⟨am, cm, rfl, hM8, hF⟩
          have F8 := Lib.hid (F7.out.trans hF (by simp))
          have F78 := Lib.hid hF
          have KP := Lib.hid (fun w' (g : Fr [] w8 w') => (⟨cell_fr' (cell_fr' X07.out hF) g, cell_fr' (cell_fr' X17.out hF) g⟩ : w'.cell? ⟨bx, 0, none⟩ = some (.slice f.ea f.en f.ec) ∧ w'.cell? ⟨bx, 1, none⟩ = some (.slice f.ta f.tn f.tc)))
          have D1 := Lib.hid (fun w' (g : Fr [] w8 w') => (by
            have := marksame_any am a f.en f.en cm c (M) (M) w' (by omega) (by omega) (hM8.fr g) ((N7.out.fr hF).fr g)
            rwa [decide_eq_true (rfl : (M) = (M))] at this : Calls Try.prog 61 #[.slice am f.en cm, .slice a f.en c] w' fun e w'' => e = .returned (.bool true) ∧ Fr [] w' w''))
          obtain ⟨ba, hba⟩ : ∃ b, accB f.en (M) = b := ⟨_, rfl⟩
          have D2 := Lib.hid (fun w' (g : Fr [] w8 w') => (by
            have := done_is ((IS7.out.fr hF).fr g) GN.out (by omega)
            rwa [lone_done, HF0.out, show accB f.nrm.en (M) = ba from hba] at this : Calls Try.prog 56 #[.pointer (some ⟨tb, 0, none⟩)] w' fun e w'' => e = .returned (.bool ba) ∧ Fr [] w' w''))
          have D3 := Lib.hid (fun w' (g : Fr [] w8 w') => (by
            have := acc_any f a f.en c (M) w' ((N7.out.fr hF).fr g) (by omega)
            rwa [hba] at this : Calls Try.prog 24 #[.agg #[.slice f.ea f.en f.ec, .slice f.ta f.tn f.tc], .slice a f.en c] w' fun e w'' => e = .returned (.bool ba) ∧ Fr [] w' w''))
          clear hF hM8 C8 hba
          go_wp2_with fail
          refine wp_region_held_drew (S := (fun w' => w'.cell? ⟨bx, 0, none⟩ = some (.slice f.ea f.en f.ec) ∧ w'.cell? ⟨bx, 1, none⟩ = some (.slice f.ta f.tn f.tc))) (by kernel_rfl) (KP.out _ ((Fr.refl [] w8).drew)) (fun hHeld => ?_)
          refine wpAnyH_take (i := 0) (v := ?_) rfl (by kernel_rfl) (by kernel_rfl) (by kernel_rfl) (fun _ _ _ h => h) (Or.inl ⟨rfl, ?_⟩) hHeld ?_
          rotate_left
          · (intro w hSw; (try dsimp only at hSw); go_simp; try (with_reducible rfl))
          simp only [List.getElem_toArray, List.getElem_cons_succ, List.getElem_cons_zero, Act.put, List.setIfInBounds_toArray, List.set_cons_zero, List.set_cons_succ]
          refine wpAnyH_take (i := 1) (v := ?_) rfl (by kernel_rfl) (by kernel_rfl) (by kernel_rfl) (fun _ _ _ h => h) (Or.inl ⟨rfl, ?_⟩) hHeld ?_
          rotate_left
          · (intro w hSw; (try dsimp only at hSw); go_simp; try (with_reducible rfl))
          simp only [List.getElem_toArray, List.getElem_cons_succ, List.getElem_cons_zero, Act.put, List.setIfInBounds_toArray, List.set_cons_zero, List.set_cons_succ]
          refine wpAnyH_take (i := 2) (v := ?_) rfl (by kernel_rfl) (by kernel_rfl) (by kernel_rfl) (fun _ _ _ h => h) (Or.inl ⟨rfl, ?_⟩) hHeld ?_
          rotate_left
          · (intro w hSw; (try dsimp only at hSw); go_simp; try (with_reducible rfl))
          simp only [List.getElem_toArray, List.getElem_cons_succ, List.getElem_cons_zero, Act.put, List.setIfInBounds_toArray, List.set_cons_zero, List.set_cons_succ]
          refine wpAnyH_take (i := 3) (v := ?_) rfl (by kernel_rfl) (by kernel_rfl) (by kernel_rfl) (fun _ _ _ h => h) (Or.inl ⟨rfl, ?_⟩) hHeld ?_
          rotate_left
          · (intro w hSw; (try dsimp only at hSw); go_simp; try (with_reducible rfl))
          simp only [List.getElem_toArray, List.getElem_cons_succ, List.getElem_cons_zero, Act.put, List.setIfInBounds_toArray, List.set_cons_zero, List.set_cons_succ]
          refine wpAnyH_take (i := 4) (v := ?_) rfl (by kernel_rfl) (by kernel_rfl) (by kernel_rfl) (fun _ _ _ h => h) (Or.inl ⟨rfl, ?_⟩) hHeld ?_
          rotate_left
          · (intro w hSw; (try dsimp only at hSw); go_simp; try (with_reducible rfl))
          simp only [List.getElem_toArray, List.getElem_cons_succ, List.getElem_cons_zero, Act.put, List.setIfInBounds_toArray, List.set_cons_zero, List.set_cons_succ]
          refine wpAnyH_ready (rs := [5]) (by kernel_rfl) (by simp) ?_
          refine AllReadyH.cons rfl (fun K hK => ?_) AllReadyH.nil
          simp only [List.getElem_toArray, List.getElem_cons_succ, List.getElem_cons_zero]
          go_simp
          go_wp2_with (first | (go_at_call 61; refine (D1.out _ ((Fr.refl [] w8).drew)).mono ?_; rintro e v1 ⟨rfl, hG1⟩))
          refine hK.out _ _ (by first | (exact KP.out _ (((Fr.refl [] w8).drew).trans hG1 (by simp))) | go_keep) (fun hHeld => ?_)
          clear hK K
          refine wpAnyH_take (i := 6) (v := ?_) rfl (by kernel_rfl) (by kernel_rfl) (by kernel_rfl) (fun _ _ _ h => h) (Or.inl ⟨rfl, ?_⟩) hHeld ?_
          rotate_left
          · (intro w hSw; (try dsimp only at hSw); go_simp; try (with_reducible rfl))
          simp only [List.getElem_toArray, List.getElem_cons_succ, List.getElem_cons_zero, Act.put, List.setIfInBounds_toArray, List.set_cons_zero, List.set_cons_succ]
          refine wpAnyH_take (i := 7) (v := ?_) rfl (by kernel_rfl) (by kernel_rfl) (by kernel_rfl) (fun _ _ _ h => h) (Or.inl ⟨rfl, ?_⟩) hHeld ?_
          rotate_left
          · (intro w hSw; (try dsimp only at hSw); go_simp; try (with_reducible rfl))
          simp only [List.getElem_toArray, List.getElem_cons_succ, List.getElem_cons_zero, Act.put, List.setIfInBounds_toArray, List.set_cons_zero, List.set_cons_succ]
          refine wpAnyH_take (i := 8) (v := ?_) rfl (by kernel_rfl) (by kernel_rfl) (by kernel_rfl) (fun _ _ _ h => h) (Or.inl ⟨rfl, ?_⟩) hHeld ?_
          rotate_left
          · (intro w hSw; (try dsimp only at hSw); go_simp; try (with_reducible rfl))
          simp only [List.getElem_toArray, List.getElem_cons_succ, List.getElem_cons_zero, Act.put, List.setIfInBounds_toArray, List.set_cons_zero, List.set_cons_succ]
          refine wpAnyH_take (i := 9) (v := ?_) rfl (by kernel_rfl) (by kernel_rfl) (by kernel_rfl) (fun _ _ _ h => h) (Or.inl ⟨rfl, ?_⟩) hHeld ?_
          rotate_left
          · (intro w hSw; (try dsimp only at hSw); go_simp; try (with_reducible rfl))
          simp only [List.getElem_toArray, List.getElem_cons_succ, List.getElem_cons_zero, Act.put, List.setIfInBounds_toArray, List.set_cons_zero, List.set_cons_succ]
          refine wpAnyH_take (i := 11) (v := ?_) rfl (by kernel_rfl) (by kernel_rfl) (by kernel_rfl) (fun _ _ _ h => h) (Or.inl ⟨rfl, ?_⟩) hHeld ?_
          rotate_left
          · (intro w hSw; (try dsimp only at hSw); go_simp; try (with_reducible rfl))
          simp only [List.getElem_toArray, List.getElem_cons_succ, List.getElem_cons_zero, Act.put, List.setIfInBounds_toArray, List.set_cons_zero, List.set_cons_succ]
          refine wpAnyH_take (i := 12) (v := ?_) rfl (by kernel_rfl) (by kernel_rfl) (by kernel_rfl) (fun _ _ _ h => h) (Or.inl ⟨rfl, ?_⟩) hHeld ?_
          rotate_left
          · (intro w hSw; (try dsimp only at hSw); go_simp; try (with_reducible rfl))
          simp only [List.getElem_toArray, List.getElem_cons_succ, List.getElem_cons_zero, Act.put, List.setIfInBounds_toArray, List.set_cons_zero, List.set_cons_succ]
          refine wpAnyH_ready (rs := [10]) (by kernel_rfl) (by simp) ?_
          refine AllReadyH.cons rfl (fun K hK => ?_) AllReadyH.nil
          simp only [List.getElem_toArray, List.getElem_cons_succ, List.getElem_cons_zero]
          go_simp
          go_wp2_with (first | (go_at_call 56; refine (D2.out _ (((Fr.refl [] w8).drew).trans hG1 (by simp))).mono ?_; rintro e v2 ⟨rfl, hG2⟩))
          refine hK.out _ _ (by first | (exact KP.out _ ((((Fr.refl [] w8).drew).trans hG1 (by simp)).trans hG2 (by simp))) | go_keep) (fun hHeld => ?_)
          clear hK K
          refine wpAnyH_ready (rs := [13]) (by kernel_rfl) (by simp) ?_
          refine AllReadyH.cons rfl (fun K hK => ?_) AllReadyH.nil
          simp only [List.getElem_toArray, List.getElem_cons_succ, List.getElem_cons_zero]
          go_simp
          go_wp2_with (first | (go_at_call 24; refine (D3.out _ ((((Fr.refl [] w8).drew).trans hG1 (by simp)).trans hG2 (by simp))).mono ?_; rintro e v3 ⟨rfl, hG3⟩))
          refine hK.out _ _ (by first | (exact KP.out _ (((((Fr.refl [] w8).drew).trans hG1 (by simp)).trans hG2 (by simp)).trans hG3 (by simp))) | go_keep) (fun hHeld => ?_)
          clear hK K
          refine wpAnyH_take (i := 14) (v := ?_) rfl (by kernel_rfl) (by kernel_rfl) (by kernel_rfl) (fun _ _ _ h => h) (Or.inl ⟨rfl, ?_⟩) hHeld ?_
          rotate_left
          · (intro w hSw; (try dsimp only at hSw); go_simp; try (with_reducible rfl))
          simp only [List.getElem_toArray, List.getElem_cons_succ, List.getElem_cons_zero, Act.put, List.setIfInBounds_toArray, List.set_cons_zero, List.set_cons_succ]
          refine wpAnyH_take (i := 15) (v := ?_) rfl (by kernel_rfl) (by kernel_rfl) (by kernel_rfl) (fun _ _ _ h => h) (Or.inl ⟨rfl, ?_⟩) hHeld ?_
          rotate_left
          · (intro w hSw; (try dsimp only at hSw); go_simp; try (with_reducible rfl))
          simp only [List.getElem_toArray, List.getElem_cons_succ, List.getElem_cons_zero, Act.put, List.setIfInBounds_toArray, List.set_cons_zero, List.set_cons_succ]
          refine wpAnyH_done (by kernel_rfl) ?_ _
          have FZ := Lib.hid (F78.out.trans (((((Fr.refl [] w8).drew).trans hG1 (by simp)).trans hG2 (by simp)).trans hG3 (by simp)) (by simp))
          clear hG1 hG2 hG3 KP D1 D2 D3 hHeld
          go_wp2_with fail
          go_roundg (N - (j + 1))
          case measure => omega
          case rel => exact ⟨j + 1, S6, _, _, _, rfl, by omega, rfl, rfl, IS7.out.fr FZ.out, GN.out, N7.out.fr FZ.out, AN7.out.fr FZ.out, BX7.out.fr FZ.out, cell_fr' X07.out FZ.out, cell_fr' X17.out FZ.out, HS7.out, F7.out.trans FZ.out (by simp)⟩
      by_cases hk1 : xk = 1
      · subst hk1
        by_cases hi0 : xi = 0
        · subst hi0
          clear hk0
          by_cases hE : doE f M xa = 0
          · have HE := Lib.hid hE
            have ea : actF (lone Fs M) 1 0 xa = (-1, 0, lone Fs (doM f M xa.toNat)) := by
              show doF (lone Fs M) 0 xa = _
              have := lone_do0 (Fs := Fs) (M := M) (at' := xa) (by rw [HF0.out]; exact hE)
              rw [HF0.out] at this
              exact this
            clear hE
            have C5 := act_is IS5.out GM.out (by omega) 1 0 xa
            rw [ea] at C5
            go_wp2_with fail
            refine C5.mono ?_
            rintro e w6 ⟨rfl, S6, hIS, hF, hS⟩
            have IS6 := Lib.hid hIS
            have HS6 := Lib.hid (fun y hy => (by rcases hS y hy with h | h; exact HS.out y h; exact Nat.le_trans F5.out.size h) : ∀ y ∈ S6, W.heap.size ≤ y)
            have F6 := Lib.hid (F5.out.trans hF (fun y hy => .inr (HS.out y hy)))
            have M6 := Lib.hid (M5.out.next hF A5.out)
            have A6 := Lib.hid (A5.out.next hF hS)
            have BX6 := Lib.hid (BX5.out.next hF hS)
            have x0 := (cell_frA BX5.out hF 0).trans X05.out
            have x1 := (cell_frA BX5.out hF 1).trans X15.out
            have t0 := (cell_frA TX5.out hF 0).trans T0.out
            have t1 := (cell_frA TX5.out hF 1).trans T1.out
            have t2 := (cell_frA TX5.out hF 2).trans T2.out
            clear hIS hF hS C5
            have C7 := do_fresh f a f.en c M xa w6 (FW.out.fr F6.out) M6.out (by omega)
            rw [HE.out] at C7
            unfold FlatD.val at C7
            have hfn := do_fits f M xa.toNat (by have := HFIT.out; rw [HF0.out] at this; exact this)
            have C7b := C7.mono fun e w' h => nextF_ok0 h
            have FN := Lib.hid hfn
            clear C7 hfn ea
            go_wp2_with fail
            refine C7b.mono ?_
            intro e w7 hNO
            obtain ⟨a7, c7, rfl, hM7, hF, hfr⟩ := hNO
            rw [fits_len FN.out] at hM7 ⊢
            have N7 := Lib.hid hM7
            have AN7 := Lib.hid (Apart.new IS6.out (fun g o _ he => hfr g o he) hM7.2.lt)
            have GN := Lib.hid (lone_good GM.out (N := doM f M xa.toNat) (by rw [HF0.out]; exact FN.out))
            have F7 := Lib.hid (F6.out.trans hF (by simp))
            have IS7 := Lib.hid (IS6.out.fr hF)
            have BX7 := Lib.hid (BX6.out.fr hF)
            have X07 := Lib.hid (cell_fr' x0 hF)
            have X17 := Lib.hid (cell_fr' x1 hF)
            have HS7 := HS6
            clear hF hfr hM7 C7b x0 x1 t0 t1 t2
            have C8 := lone_mark IS7.out GN.out (by omega) (N7.out.1)
            go_wp2_with fail
            refine C8.mono ?_
            rintro e w8 ⟨am, cm, rfl, hM8, hF⟩
            have F8 := Lib.hid (F7.out.trans hF (by simp))
            have F78 := Lib.hid hF
            have KP := Lib.hid (fun w' (g : Fr [] w8 w') => (⟨cell_fr' (cell_fr' X07.out hF) g, cell_fr' (cell_fr' X17.out hF) g⟩ : w'.cell? ⟨bx, 0, none⟩ = some (.slice f.ea f.en f.ec) ∧ w'.cell? ⟨bx, 1, none⟩ = some (.slice f.ta f.tn f.tc)))
            have D1 := Lib.hid (fun w' (g : Fr [] w8 w') => (by
              have := marksame_any am a7 f.en f.en cm c7 (doM f M xa.toNat) (doM f M xa.toNat) w' (by omega) (by omega) (hM8.fr g) ((N7.out.fr hF).fr g)
              rwa [decide_eq_true (rfl : (doM f M xa.toNat) = (doM f M xa.toNat))] at this : Calls Try.prog 61 #[.slice am f.en cm, .slice a7 f.en c7] w' fun e w'' => e = .returned (.bool true) ∧ Fr [] w' w''))
            obtain ⟨ba, hba⟩ : ∃ b, accB f.en (doM f M xa.toNat) = b := ⟨_, rfl⟩
            have D2 := Lib.hid (fun w' (g : Fr [] w8 w') => (by
              have := done_is ((IS7.out.fr hF).fr g) GN.out (by omega)
              rwa [lone_done, HF0.out, show accB f.nrm.en (doM f M xa.toNat) = ba from hba] at this : Calls Try.prog 56 #[.pointer (some ⟨tb, 0, none⟩)] w' fun e w'' => e = .returned (.bool ba) ∧ Fr [] w' w''))
            have D3 := Lib.hid (fun w' (g : Fr [] w8 w') => (by
              have := acc_any f a7 f.en c7 (doM f M xa.toNat) w' ((N7.out.fr hF).fr g) (by omega)
              rwa [hba] at this : Calls Try.prog 24 #[.agg #[.slice f.ea f.en f.ec, .slice f.ta f.tn f.tc], .slice a7 f.en c7] w' fun e w'' => e = .returned (.bool ba) ∧ Fr [] w' w''))
            clear hF hM8 C8 hba
            go_wp2_with fail
            refine wp_region_held_drew (S := (fun w' => w'.cell? ⟨bx, 0, none⟩ = some (.slice f.ea f.en f.ec) ∧ w'.cell? ⟨bx, 1, none⟩ = some (.slice f.ta f.tn f.tc))) (by kernel_rfl) (KP.out _ ((Fr.refl [] w8).drew)) (fun hHeld => ?_)
            refine wpAnyH_take (i := 0) (v := ?_) rfl (by kernel_rfl) (by kernel_rfl) (by kernel_rfl) (fun _ _ _ h => h) (Or.inl ⟨rfl, ?_⟩) hHeld ?_
            rotate_left
            · (intro w hSw; (try dsimp only at hSw); go_simp; try (with_reducible rfl))
            simp only [List.getElem_toArray, List.getElem_cons_succ, List.getElem_cons_zero, Act.put, List.setIfInBounds_toArray, List.set_cons_zero, List.set_cons_succ]
            refine wpAnyH_take (i := 1) (v := ?_) rfl (by kernel_rfl) (by kernel_rfl) (by kernel_rfl) (fun _ _ _ h => h) (Or.inl ⟨rfl, ?_⟩) hHeld ?_
            rotate_left
            · (intro w hSw; (try dsimp only at hSw); go_simp; try (with_reducible rfl))
            simp only [List.getElem_toArray, List.getElem_cons_succ, List.getElem_cons_zero, Act.put, List.setIfInBounds_toArray, List.set_cons_zero, List.set_cons_succ]
            refine wpAnyH_take (i := 2) (v := ?_) rfl (by kernel_rfl) (by kernel_rfl) (by kernel_rfl) (fun _ _ _ h => h) (Or.inl ⟨rfl, ?_⟩) hHeld ?_
            rotate_left
            · (intro w hSw; (try dsimp only at hSw); go_simp; try (with_reducible rfl))
            simp only [List.getElem_toArray, List.getElem_cons_succ, List.getElem_cons_zero, Act.put, List.setIfInBounds_toArray, List.set_cons_zero, List.set_cons_succ]
            refine wpAnyH_take (i := 3) (v := ?_) rfl (by kernel_rfl) (by kernel_rfl) (by kernel_rfl) (fun _ _ _ h => h) (Or.inl ⟨rfl, ?_⟩) hHeld ?_
            rotate_left
            · (intro w hSw; (try dsimp only at hSw); go_simp; try (with_reducible rfl))
            simp only [List.getElem_toArray, List.getElem_cons_succ, List.getElem_cons_zero, Act.put, List.setIfInBounds_toArray, List.set_cons_zero, List.set_cons_succ]
            refine wpAnyH_take (i := 4) (v := ?_) rfl (by kernel_rfl) (by kernel_rfl) (by kernel_rfl) (fun _ _ _ h => h) (Or.inl ⟨rfl, ?_⟩) hHeld ?_
            rotate_left
            · (intro w hSw; (try dsimp only at hSw); go_simp; try (with_reducible rfl))
            simp only [List.getElem_toArray, List.getElem_cons_succ, List.getElem_cons_zero, Act.put, List.setIfInBounds_toArray, List.set_cons_zero, List.set_cons_succ]
            refine wpAnyH_ready (rs := [5]) (by kernel_rfl) (by simp) ?_
            refine AllReadyH.cons rfl (fun K hK => ?_) AllReadyH.nil
            simp only [List.getElem_toArray, List.getElem_cons_succ, List.getElem_cons_zero]
            go_simp
            go_wp2_with (first | (go_at_call 61; refine (D1.out _ ((Fr.refl [] w8).drew)).mono ?_; rintro e v1 ⟨rfl, hG1⟩))
            refine hK.out _ _ (by first | (exact KP.out _ (((Fr.refl [] w8).drew).trans hG1 (by simp))) | go_keep) (fun hHeld => ?_)
            clear hK K
            refine wpAnyH_take (i := 6) (v := ?_) rfl (by kernel_rfl) (by kernel_rfl) (by kernel_rfl) (fun _ _ _ h => h) (Or.inl ⟨rfl, ?_⟩) hHeld ?_
            rotate_left
            · (intro w hSw; (try dsimp only at hSw); go_simp; try (with_reducible rfl))
            simp only [List.getElem_toArray, List.getElem_cons_succ, List.getElem_cons_zero, Act.put, List.setIfInBounds_toArray, List.set_cons_zero, List.set_cons_succ]
            refine wpAnyH_take (i := 7) (v := ?_) rfl (by kernel_rfl) (by kernel_rfl) (by kernel_rfl) (fun _ _ _ h => h) (Or.inl ⟨rfl, ?_⟩) hHeld ?_
            rotate_left
            · (intro w hSw; (try dsimp only at hSw); go_simp; try (with_reducible rfl))
            simp only [List.getElem_toArray, List.getElem_cons_succ, List.getElem_cons_zero, Act.put, List.setIfInBounds_toArray, List.set_cons_zero, List.set_cons_succ]
            refine wpAnyH_take (i := 8) (v := ?_) rfl (by kernel_rfl) (by kernel_rfl) (by kernel_rfl) (fun _ _ _ h => h) (Or.inl ⟨rfl, ?_⟩) hHeld ?_
            rotate_left
            · (intro w hSw; (try dsimp only at hSw); go_simp; try (with_reducible rfl))
            simp only [List.getElem_toArray, List.getElem_cons_succ, List.getElem_cons_zero, Act.put, List.setIfInBounds_toArray, List.set_cons_zero, List.set_cons_succ]
            refine wpAnyH_take (i := 9) (v := ?_) rfl (by kernel_rfl) (by kernel_rfl) (by kernel_rfl) (fun _ _ _ h => h) (Or.inl ⟨rfl, ?_⟩) hHeld ?_
            rotate_left
            · (intro w hSw; (try dsimp only at hSw); go_simp; try (with_reducible rfl))
            simp only [List.getElem_toArray, List.getElem_cons_succ, List.getElem_cons_zero, Act.put, List.setIfInBounds_toArray, List.set_cons_zero, List.set_cons_succ]
            refine wpAnyH_take (i := 11) (v := ?_) rfl (by kernel_rfl) (by kernel_rfl) (by kernel_rfl) (fun _ _ _ h => h) (Or.inl ⟨rfl, ?_⟩) hHeld ?_
            rotate_left
            · (intro w hSw; (try dsimp only at hSw); go_simp; try (with_reducible rfl))
            simp only [List.getElem_toArray, List.getElem_cons_succ, List.getElem_cons_zero, Act.put, List.setIfInBounds_toArray, List.set_cons_zero, List.set_cons_succ]
            refine wpAnyH_take (i := 12) (v := ?_) rfl (by kernel_rfl) (by kernel_rfl) (by kernel_rfl) (fun _ _ _ h => h) (Or.inl ⟨rfl, ?_⟩) hHeld ?_
            rotate_left
            · (intro w hSw; (try dsimp only at hSw); go_simp; try (with_reducible rfl))
            simp only [List.getElem_toArray, List.getElem_cons_succ, List.getElem_cons_zero, Act.put, List.setIfInBounds_toArray, List.set_cons_zero, List.set_cons_succ]
            refine wpAnyH_ready (rs := [10]) (by kernel_rfl) (by simp) ?_
            refine AllReadyH.cons rfl (fun K hK => ?_) AllReadyH.nil
            simp only [List.getElem_toArray, List.getElem_cons_succ, List.getElem_cons_zero]
            go_simp
            go_wp2_with (first | (go_at_call 56; refine (D2.out _ (((Fr.refl [] w8).drew).trans hG1 (by simp))).mono ?_; rintro e v2 ⟨rfl, hG2⟩))
            refine hK.out _ _ (by first | (exact KP.out _ ((((Fr.refl [] w8).drew).trans hG1 (by simp)).trans hG2 (by simp))) | go_keep) (fun hHeld => ?_)
            clear hK K
            refine wpAnyH_ready (rs := [13]) (by kernel_rfl) (by simp) ?_
            refine AllReadyH.cons rfl (fun K hK => ?_) AllReadyH.nil
            simp only [List.getElem_toArray, List.getElem_cons_succ, List.getElem_cons_zero]
            go_simp
            go_wp2_with (first | (go_at_call 24; refine (D3.out _ ((((Fr.refl [] w8).drew).trans hG1 (by simp)).trans hG2 (by simp))).mono ?_; rintro e v3 ⟨rfl, hG3⟩))
            refine hK.out _ _ (by first | (exact KP.out _ (((((Fr.refl [] w8).drew).trans hG1 (by simp)).trans hG2 (by simp)).trans hG3 (by simp))) | go_keep) (fun hHeld => ?_)
            clear hK K
            refine wpAnyH_take (i := 14) (v := ?_) rfl (by kernel_rfl) (by kernel_rfl) (by kernel_rfl) (fun _ _ _ h => h) (Or.inl ⟨rfl, ?_⟩) hHeld ?_
            rotate_left
            · (intro w hSw; (try dsimp only at hSw); go_simp; try (with_reducible rfl))
            simp only [List.getElem_toArray, List.getElem_cons_succ, List.getElem_cons_zero, Act.put, List.setIfInBounds_toArray, List.set_cons_zero, List.set_cons_succ]
            refine wpAnyH_take (i := 15) (v := ?_) rfl (by kernel_rfl) (by kernel_rfl) (by kernel_rfl) (fun _ _ _ h => h) (Or.inl ⟨rfl, ?_⟩) hHeld ?_
            rotate_left
            · (intro w hSw; (try dsimp only at hSw); go_simp; try (with_reducible rfl))
            simp only [List.getElem_toArray, List.getElem_cons_succ, List.getElem_cons_zero, Act.put, List.setIfInBounds_toArray, List.set_cons_zero, List.set_cons_succ]
            refine wpAnyH_done (by kernel_rfl) ?_ _
            have FZ := Lib.hid (F78.out.trans (((((Fr.refl [] w8).drew).trans hG1 (by simp)).trans hG2 (by simp)).trans hG3 (by simp)) (by simp))
            clear hG1 hG2 hG3 KP D1 D2 D3 hHeld
            go_wp2_with fail
            go_roundg (N - (j + 1))
            case measure => omega
            case rel => exact ⟨j + 1, S6, _, _, _, rfl, by omega, rfl, rfl, IS7.out.fr FZ.out, GN.out, N7.out.fr FZ.out, AN7.out.fr FZ.out, BX7.out.fr FZ.out, cell_fr' X07.out FZ.out, cell_fr' X17.out FZ.out, HS7.out, F7.out.trans FZ.out (by simp)⟩
          · obtain ⟨E, hEE⟩ : ∃ E, doE f M xa = E := ⟨_, rfl⟩
            have ea : actF (lone Fs M) 1 0 xa = (0, E, lone Fs M) := by
              show doF (lone Fs M) 0 xa = _
              have := lone_doE (Fs := Fs) (M := M) (at' := xa) HFIT.out (by rw [HF0.out]; exact hE)
              rw [HF0.out] at this
              rw [← hEE]
              exact this
            rw [hEE] at hE
            have HEE := Lib.hid hEE
            have HE := Lib.hid hE
            clear hE hEE
            have C5 := act_is IS5.out GM.out (by omega) 1 0 xa
            rw [ea] at C5
            go_wp2_with fail
            refine C5.mono ?_
            rintro e w6 ⟨rfl, S6, hIS, hF, hS⟩
            have IS6 := Lib.hid hIS
            have HS6 := Lib.hid (fun y hy => (by rcases hS y hy with h | h; exact HS.out y h; exact Nat.le_trans F5.out.size h) : ∀ y ∈ S6, W.heap.size ≤ y)
            have F6 := Lib.hid (F5.out.trans hF (fun y hy => .inr (HS.out y hy)))
            have M6 := Lib.hid (M5.out.next hF A5.out)
            have A6 := Lib.hid (A5.out.next hF hS)
            have BX6 := Lib.hid (BX5.out.next hF hS)
            have x0 := (cell_frA BX5.out hF 0).trans X05.out
            have x1 := (cell_frA BX5.out hF 1).trans X15.out
            have t0 := (cell_frA TX5.out hF 0).trans T0.out
            have t1 := (cell_frA TX5.out hF 1).trans T1.out
            have t2 := (cell_frA TX5.out hF 2).trans T2.out
            clear hIS hF hS C5
            have C7 := do_fresh f a f.en c M xa w6 (FW.out.fr F6.out) M6.out (by omega)
            rw [HEE.out] at C7
            unfold FlatD.val at C7
            have C7b := C7.mono fun e w' h => nextF_bad HE.out h
            have gE : (E != E) = false := by simp
            have gE0 : (E == 0) = false := by rw [beq_eq_false_iff_ne]; exact HE.out
            clear C7 ea
            go_wp2_with fail
            refine C7b.mono ?_
            rintro e w7 ⟨a7, c7, rfl, hF⟩
            have N7 := Lib.hid (M6.out.fr hF)
            have AN7 := Lib.hid (A6.out.fr hF)
            have GN := GM
            have F7 := Lib.hid (F6.out.trans hF (by simp))
            have IS7 := Lib.hid (IS6.out.fr hF)
            have BX7 := Lib.hid (BX6.out.fr hF)
            have X07 := Lib.hid (cell_fr' x0 hF)
            have X17 := Lib.hid (cell_fr' x1 hF)
            have HS7 := HS6
            clear hF C7b x0 x1 t0 t1 t2
            have C8 := lone_mark IS7.out GN.out (by omega) (N7.out.1)
            go_wp2_with fail
            refine C8.mono ?_
            rintro e w8 ⟨am, cm, rfl, hM8, hF⟩
            have F8 := Lib.hid (F7.out.trans hF (by simp))
            have F78 := Lib.hid hF
            have KP := Lib.hid (fun w' (g : Fr [] w8 w') => (⟨cell_fr' (cell_fr' X07.out hF) g, cell_fr' (cell_fr' X17.out hF) g⟩ : w'.cell? ⟨bx, 0, none⟩ = some (.slice f.ea f.en f.ec) ∧ w'.cell? ⟨bx, 1, none⟩ = some (.slice f.ta f.tn f.tc)))
            have D1 := Lib.hid (fun w' (g : Fr [] w8 w') => (by
              have := marksame_any am a f.en f.en cm c (M) (M) w' (by omega) (by omega) (hM8.fr g) ((N7.out.fr hF).fr g)
              rwa [decide_eq_true (rfl : (M) = (M))] at this : Calls Try.prog 61 #[.slice am f.en cm, .slice a f.en c] w' fun e w'' => e = .returned (.bool true) ∧ Fr [] w' w''))
            obtain ⟨ba, hba⟩ : ∃ b, accB f.en (M) = b := ⟨_, rfl⟩
            have D2 := Lib.hid (fun w' (g : Fr [] w8 w') => (by
              have := done_is ((IS7.out.fr hF).fr g) GN.out (by omega)
              rwa [lone_done, HF0.out, show accB f.nrm.en (M) = ba from hba] at this : Calls Try.prog 56 #[.pointer (some ⟨tb, 0, none⟩)] w' fun e w'' => e = .returned (.bool ba) ∧ Fr [] w' w''))
            have D3 := Lib.hid (fun w' (g : Fr [] w8 w') => (by
              have := acc_any f a f.en c (M) w' ((N7.out.fr hF).fr g) (by omega)
              rwa [hba] at this : Calls Try.prog 24 #[.agg #[.slice f.ea f.en f.ec, .slice f.ta f.tn f.tc], .slice a f.en c] w' fun e w'' => e = .returned (.bool ba) ∧ Fr [] w' w''))
            clear hF hM8 C8 hba
            go_wp2_with fail
            refine wp_region_held_drew (S := (fun w' => w'.cell? ⟨bx, 0, none⟩ = some (.slice f.ea f.en f.ec) ∧ w'.cell? ⟨bx, 1, none⟩ = some (.slice f.ta f.tn f.tc))) (by kernel_rfl) (KP.out _ ((Fr.refl [] w8).drew)) (fun hHeld => ?_)
            refine wpAnyH_take (i := 0) (v := ?_) rfl (by kernel_rfl) (by kernel_rfl) (by kernel_rfl) (fun _ _ _ h => h) (Or.inl ⟨rfl, ?_⟩) hHeld ?_
            rotate_left
            · (intro w hSw; (try dsimp only at hSw); go_simp; try (with_reducible rfl))
            simp only [List.getElem_toArray, List.getElem_cons_succ, List.getElem_cons_zero, Act.put, List.setIfInBounds_toArray, List.set_cons_zero, List.set_cons_succ]
            refine wpAnyH_take (i := 1) (v := ?_) rfl (by kernel_rfl) (by kernel_rfl) (by kernel_rfl) (fun _ _ _ h => h) (Or.inl ⟨rfl, ?_⟩) hHeld ?_
            rotate_left
            · (intro w hSw; (try dsimp only at hSw); go_simp; try (with_reducible rfl))
            simp only [List.getElem_toArray, List.getElem_cons_succ, List.getElem_cons_zero, Act.put, List.setIfInBounds_toArray, List.set_cons_zero, List.set_cons_succ]
            refine wpAnyH_take (i := 2) (v := ?_) rfl (by kernel_rfl) (by kernel_rfl) (by kernel_rfl) (fun _ _ _ h => h) (Or.inl ⟨rfl, ?_⟩) hHeld ?_
            rotate_left
            · (intro w hSw; (try dsimp only at hSw); go_simp; try (with_reducible rfl))
            simp only [List.getElem_toArray, List.getElem_cons_succ, List.getElem_cons_zero, Act.put, List.setIfInBounds_toArray, List.set_cons_zero, List.set_cons_succ]
            refine wpAnyH_take (i := 3) (v := ?_) rfl (by kernel_rfl) (by kernel_rfl) (by kernel_rfl) (fun _ _ _ h => h) (Or.inl ⟨rfl, ?_⟩) hHeld ?_
            rotate_left
            · (intro w hSw; (try dsimp only at hSw); go_simp; try (with_reducible rfl))
            simp only [List.getElem_toArray, List.getElem_cons_succ, List.getElem_cons_zero, Act.put, List.setIfInBounds_toArray, List.set_cons_zero, List.set_cons_succ]
            refine wpAnyH_take (i := 4) (v := ?_) rfl (by kernel_rfl) (by kernel_rfl) (by kernel_rfl) (fun _ _ _ h => h) (Or.inl ⟨rfl, ?_⟩) hHeld ?_
            rotate_left
            · (intro w hSw; (try dsimp only at hSw); go_simp; try (with_reducible rfl))
            simp only [List.getElem_toArray, List.getElem_cons_succ, List.getElem_cons_zero, Act.put, List.setIfInBounds_toArray, List.set_cons_zero, List.set_cons_succ]
            refine wpAnyH_ready (rs := [5]) (by kernel_rfl) (by simp) ?_
            refine AllReadyH.cons rfl (fun K hK => ?_) AllReadyH.nil
            simp only [List.getElem_toArray, List.getElem_cons_succ, List.getElem_cons_zero]
            go_simp
            go_wp2_with (first | (go_at_call 61; refine (D1.out _ ((Fr.refl [] w8).drew)).mono ?_; rintro e v1 ⟨rfl, hG1⟩))
            refine hK.out _ _ (by first | (exact KP.out _ (((Fr.refl [] w8).drew).trans hG1 (by simp))) | go_keep) (fun hHeld => ?_)
            clear hK K
            refine wpAnyH_take (i := 6) (v := ?_) rfl (by kernel_rfl) (by kernel_rfl) (by kernel_rfl) (fun _ _ _ h => h) (Or.inl ⟨rfl, ?_⟩) hHeld ?_
            rotate_left
            · (intro w hSw; (try dsimp only at hSw); go_simp; try (with_reducible rfl))
            simp only [List.getElem_toArray, List.getElem_cons_succ, List.getElem_cons_zero, Act.put, List.setIfInBounds_toArray, List.set_cons_zero, List.set_cons_succ]
            refine wpAnyH_take (i := 7) (v := ?_) rfl (by kernel_rfl) (by kernel_rfl) (by kernel_rfl) (fun _ _ _ h => h) (Or.inl ⟨rfl, ?_⟩) hHeld ?_
            rotate_left
            · (intro w hSw; (try dsimp only at hSw); go_simp; try (with_reducible rfl))
            simp only [List.getElem_toArray, List.getElem_cons_succ, List.getElem_cons_zero, Act.put, List.setIfInBounds_toArray, List.set_cons_zero, List.set_cons_succ]
            refine wpAnyH_take (i := 8) (v := ?_) rfl (by kernel_rfl) (by kernel_rfl) (by kernel_rfl) (fun _ _ _ h => h) (Or.inl ⟨rfl, ?_⟩) hHeld ?_
            rotate_left
            · (intro w hSw; (try dsimp only at hSw); go_simp; try (with_reducible rfl))
            simp only [List.getElem_toArray, List.getElem_cons_succ, List.getElem_cons_zero, Act.put, List.setIfInBounds_toArray, List.set_cons_zero, List.set_cons_succ]
            refine wpAnyH_take (i := 9) (v := ?_) rfl (by kernel_rfl) (by kernel_rfl) (by kernel_rfl) (fun _ _ _ h => h) (Or.inl ⟨rfl, ?_⟩) hHeld ?_
            rotate_left
            · (intro w hSw; (try dsimp only at hSw); go_simp; try (with_reducible rfl))
            simp only [List.getElem_toArray, List.getElem_cons_succ, List.getElem_cons_zero, Act.put, List.setIfInBounds_toArray, List.set_cons_zero, List.set_cons_succ]
            refine wpAnyH_take (i := 11) (v := ?_) rfl (by kernel_rfl) (by kernel_rfl) (by kernel_rfl) (fun _ _ _ h => h) (Or.inl ⟨rfl, ?_⟩) hHeld ?_
            rotate_left
            · (intro w hSw; (try dsimp only at hSw); go_simp; try (with_reducible rfl))
            simp only [List.getElem_toArray, List.getElem_cons_succ, List.getElem_cons_zero, Act.put, List.setIfInBounds_toArray, List.set_cons_zero, List.set_cons_succ]
            refine wpAnyH_take (i := 12) (v := ?_) rfl (by kernel_rfl) (by kernel_rfl) (by kernel_rfl) (fun _ _ _ h => h) (Or.inl ⟨rfl, ?_⟩) hHeld ?_
            rotate_left
            · (intro w hSw; (try dsimp only at hSw); go_simp; try (with_reducible rfl))
            simp only [List.getElem_toArray, List.getElem_cons_succ, List.getElem_cons_zero, Act.put, List.setIfInBounds_toArray, List.set_cons_zero, List.set_cons_succ]
            refine wpAnyH_ready (rs := [10]) (by kernel_rfl) (by simp) ?_
            refine AllReadyH.cons rfl (fun K hK => ?_) AllReadyH.nil
            simp only [List.getElem_toArray, List.getElem_cons_succ, List.getElem_cons_zero]
            go_simp
            go_wp2_with (first | (go_at_call 56; refine (D2.out _ (((Fr.refl [] w8).drew).trans hG1 (by simp))).mono ?_; rintro e v2 ⟨rfl, hG2⟩))
            refine hK.out _ _ (by first | (exact KP.out _ ((((Fr.refl [] w8).drew).trans hG1 (by simp)).trans hG2 (by simp))) | go_keep) (fun hHeld => ?_)
            clear hK K
            refine wpAnyH_ready (rs := [13]) (by kernel_rfl) (by simp) ?_
            refine AllReadyH.cons rfl (fun K hK => ?_) AllReadyH.nil
            simp only [List.getElem_toArray, List.getElem_cons_succ, List.getElem_cons_zero]
            go_simp
            go_wp2_with (first | (go_at_call 24; refine (D3.out _ ((((Fr.refl [] w8).drew).trans hG1 (by simp)).trans hG2 (by simp))).mono ?_; rintro e v3 ⟨rfl, hG3⟩))
            refine hK.out _ _ (by first | (exact KP.out _ (((((Fr.refl [] w8).drew).trans hG1 (by simp)).trans hG2 (by simp)).trans hG3 (by simp))) | go_keep) (fun hHeld => ?_)
            clear hK K
            refine wpAnyH_take (i := 14) (v := ?_) rfl (by kernel_rfl) (by kernel_rfl) (by kernel_rfl) (fun _ _ _ h => h) (Or.inl ⟨rfl, ?_⟩) hHeld ?_
            rotate_left
            · (intro w hSw; (try dsimp only at hSw); go_simp; try (with_reducible rfl))
            simp only [List.getElem_toArray, List.getElem_cons_succ, List.getElem_cons_zero, Act.put, List.setIfInBounds_toArray, List.set_cons_zero, List.set_cons_succ]
            refine wpAnyH_take (i := 15) (v := ?_) rfl (by kernel_rfl) (by kernel_rfl) (by kernel_rfl) (fun _ _ _ h => h) (Or.inl ⟨rfl, ?_⟩) hHeld ?_
            rotate_left
            · (intro w hSw; (try dsimp only at hSw); go_simp; try (with_reducible rfl))
            simp only [List.getElem_toArray, List.getElem_cons_succ, List.getElem_cons_zero, Act.put, List.setIfInBounds_toArray, List.set_cons_zero, List.set_cons_succ]
            refine wpAnyH_done (by kernel_rfl) ?_ _
            have FZ := Lib.hid (F78.out.trans (((((Fr.refl [] w8).drew).trans hG1 (by simp)).trans hG2 (by simp)).trans hG3 (by simp)) (by simp))
            clear hG1 hG2 hG3 KP D1 D2 D3 hHeld
            go_wp2_with fail
            go_roundg (N - (j + 1))
            case measure => omega
            case rel => exact ⟨j + 1, S6, _, _, _, rfl, by omega, rfl, rfl, IS7.out.fr FZ.out, GN.out, N7.out.fr FZ.out, AN7.out.fr FZ.out, BX7.out.fr FZ.out, cell_fr' X07.out FZ.out, cell_fr' X17.out FZ.out, HS7.out, F7.out.trans FZ.out (by simp)⟩
        · have bi : (xi == 0) = false := by rw [beq_eq_false_iff_ne]; exact hi0
          have ea : actF (lone Fs M) 1 xi xa = (0, 10, lone Fs M) := lone_doN hi0
          clear hi0 hk0
          have C5 := act_is IS5.out GM.out (by omega) 1 xi xa
          rw [ea] at C5
          go_wp2_with fail
          refine C5.mono ?_
          rintro e w6 ⟨rfl, S6, hIS, hF, hS⟩
          have IS6 := Lib.hid hIS
          have HS6 := Lib.hid (fun y hy => (by rcases hS y hy with h | h; exact HS.out y h; exact Nat.le_trans F5.out.size h) : ∀ y ∈ S6, W.heap.size ≤ y)
          have F6 := Lib.hid (F5.out.trans hF (fun y hy => .inr (HS.out y hy)))
          have M6 := Lib.hid (M5.out.next hF A5.out)
          have A6 := Lib.hid (A5.out.next hF hS)
          have BX6 := Lib.hid (BX5.out.next hF hS)
          have x0 := (cell_frA BX5.out hF 0).trans X05.out
          have x1 := (cell_frA BX5.out hF 1).trans X15.out
          have t0 := (cell_frA TX5.out hF 0).trans T0.out
          have t1 := (cell_frA TX5.out hF 1).trans T1.out
          have t2 := (cell_frA TX5.out hF 2).trans T2.out
          clear hIS hF hS C5
          clear ea
          have F7 := F6
          have IS7 := IS6
          have N7 := M6
          have AN7 := A6
          have BX7 := BX6
          have X07 := Lib.hid x0
          have X17 := Lib.hid x1
          have HS7 := HS6
          have GN := GM
          have C8 := lone_mark IS7.out GN.out (by omega) (N7.out.1)
          go_wp2_with fail
          refine C8.mono ?_
          rintro e w8 ⟨am, cm, rfl, hM8, hF⟩
          have F8 := Lib.hid (F7.out.trans hF (by simp))
          have F78 := Lib.hid hF
          have KP := Lib.hid (fun w' (g : Fr [] w8 w') => (⟨cell_fr' (cell_fr' X07.out hF) g, cell_fr' (cell_fr' X17.out hF) g⟩ : w'.cell? ⟨bx, 0, none⟩ = some (.slice f.ea f.en f.ec) ∧ w'.cell? ⟨bx, 1, none⟩ = some (.slice f.ta f.tn f.tc)))
          have D1 := Lib.hid (fun w' (g : Fr [] w8 w') => (by
            have := marksame_any am a f.en f.en cm c (M) (M) w' (by omega) (by omega) (hM8.fr g) ((N7.out.fr hF).fr g)
            rwa [decide_eq_true (rfl : (M) = (M))] at this : Calls Try.prog 61 #[.slice am f.en cm, .slice a f.en c] w' fun e w'' => e = .returned (.bool true) ∧ Fr [] w' w''))
          obtain ⟨ba, hba⟩ : ∃ b, accB f.en (M) = b := ⟨_, rfl⟩
          have D2 := Lib.hid (fun w' (g : Fr [] w8 w') => (by
            have := done_is ((IS7.out.fr hF).fr g) GN.out (by omega)
            rwa [lone_done, HF0.out, show accB f.nrm.en (M) = ba from hba] at this : Calls Try.prog 56 #[.pointer (some ⟨tb, 0, none⟩)] w' fun e w'' => e = .returned (.bool ba) ∧ Fr [] w' w''))
          have D3 := Lib.hid (fun w' (g : Fr [] w8 w') => (by
            have := acc_any f a f.en c (M) w' ((N7.out.fr hF).fr g) (by omega)
            rwa [hba] at this : Calls Try.prog 24 #[.agg #[.slice f.ea f.en f.ec, .slice f.ta f.tn f.tc], .slice a f.en c] w' fun e w'' => e = .returned (.bool ba) ∧ Fr [] w' w''))
          clear hF hM8 C8 hba
          go_wp2_with fail
          refine wp_region_held_drew (S := (fun w' => w'.cell? ⟨bx, 0, none⟩ = some (.slice f.ea f.en f.ec) ∧ w'.cell? ⟨bx, 1, none⟩ = some (.slice f.ta f.tn f.tc))) (by kernel_rfl) (KP.out _ ((Fr.refl [] w8).drew)) (fun hHeld => ?_)
          refine wpAnyH_take (i := 0) (v := ?_) rfl (by kernel_rfl) (by kernel_rfl) (by kernel_rfl) (fun _ _ _ h => h) (Or.inl ⟨rfl, ?_⟩) hHeld ?_
          rotate_left
          · (intro w hSw; (try dsimp only at hSw); go_simp; try (with_reducible rfl))
          simp only [List.getElem_toArray, List.getElem_cons_succ, List.getElem_cons_zero, Act.put, List.setIfInBounds_toArray, List.set_cons_zero, List.set_cons_succ]
          refine wpAnyH_take (i := 1) (v := ?_) rfl (by kernel_rfl) (by kernel_rfl) (by kernel_rfl) (fun _ _ _ h => h) (Or.inl ⟨rfl, ?_⟩) hHeld ?_
          rotate_left
          · (intro w hSw; (try dsimp only at hSw); go_simp; try (with_reducible rfl))
          simp only [List.getElem_toArray, List.getElem_cons_succ, List.getElem_cons_zero, Act.put, List.setIfInBounds_toArray, List.set_cons_zero, List.set_cons_succ]
          refine wpAnyH_take (i := 2) (v := ?_) rfl (by kernel_rfl) (by kernel_rfl) (by kernel_rfl) (fun _ _ _ h => h) (Or.inl ⟨rfl, ?_⟩) hHeld ?_
          rotate_left
          · (intro w hSw; (try dsimp only at hSw); go_simp; try (with_reducible rfl))
          simp only [List.getElem_toArray, List.getElem_cons_succ, List.getElem_cons_zero, Act.put, List.setIfInBounds_toArray, List.set_cons_zero, List.set_cons_succ]
          refine wpAnyH_take (i := 3) (v := ?_) rfl (by kernel_rfl) (by kernel_rfl) (by kernel_rfl) (fun _ _ _ h => h) (Or.inl ⟨rfl, ?_⟩) hHeld ?_
          rotate_left
          · (intro w hSw; (try dsimp only at hSw); go_simp; try (with_reducible rfl))
          simp only [List.getElem_toArray, List.getElem_cons_succ, List.getElem_cons_zero, Act.put, List.setIfInBounds_toArray, List.set_cons_zero, List.set_cons_succ]
          refine wpAnyH_take (i := 4) (v := ?_) rfl (by kernel_rfl) (by kernel_rfl) (by kernel_rfl) (fun _ _ _ h => h) (Or.inl ⟨rfl, ?_⟩) hHeld ?_
          rotate_left
          · (intro w hSw; (try dsimp only at hSw); go_simp; try (with_reducible rfl))
          simp only [List.getElem_toArray, List.getElem_cons_succ, List.getElem_cons_zero, Act.put, List.setIfInBounds_toArray, List.set_cons_zero, List.set_cons_succ]
          refine wpAnyH_ready (rs := [5]) (by kernel_rfl) (by simp) ?_
          refine AllReadyH.cons rfl (fun K hK => ?_) AllReadyH.nil
          simp only [List.getElem_toArray, List.getElem_cons_succ, List.getElem_cons_zero]
          go_simp
          go_wp2_with (first | (go_at_call 61; refine (D1.out _ ((Fr.refl [] w8).drew)).mono ?_; rintro e v1 ⟨rfl, hG1⟩))
          refine hK.out _ _ (by first | (exact KP.out _ (((Fr.refl [] w8).drew).trans hG1 (by simp))) | go_keep) (fun hHeld => ?_)
          clear hK K
          refine wpAnyH_take (i := 6) (v := ?_) rfl (by kernel_rfl) (by kernel_rfl) (by kernel_rfl) (fun _ _ _ h => h) (Or.inl ⟨rfl, ?_⟩) hHeld ?_
          rotate_left
          · (intro w hSw; (try dsimp only at hSw); go_simp; try (with_reducible rfl))
          simp only [List.getElem_toArray, List.getElem_cons_succ, List.getElem_cons_zero, Act.put, List.setIfInBounds_toArray, List.set_cons_zero, List.set_cons_succ]
          refine wpAnyH_take (i := 7) (v := ?_) rfl (by kernel_rfl) (by kernel_rfl) (by kernel_rfl) (fun _ _ _ h => h) (Or.inl ⟨rfl, ?_⟩) hHeld ?_
          rotate_left
          · (intro w hSw; (try dsimp only at hSw); go_simp; try (with_reducible rfl))
          simp only [List.getElem_toArray, List.getElem_cons_succ, List.getElem_cons_zero, Act.put, List.setIfInBounds_toArray, List.set_cons_zero, List.set_cons_succ]
          refine wpAnyH_take (i := 8) (v := ?_) rfl (by kernel_rfl) (by kernel_rfl) (by kernel_rfl) (fun _ _ _ h => h) (Or.inl ⟨rfl, ?_⟩) hHeld ?_
          rotate_left
          · (intro w hSw; (try dsimp only at hSw); go_simp; try (with_reducible rfl))
          simp only [List.getElem_toArray, List.getElem_cons_succ, List.getElem_cons_zero, Act.put, List.setIfInBounds_toArray, List.set_cons_zero, List.set_cons_succ]
          refine wpAnyH_take (i := 9) (v := ?_) rfl (by kernel_rfl) (by kernel_rfl) (by kernel_rfl) (fun _ _ _ h => h) (Or.inl ⟨rfl, ?_⟩) hHeld ?_
          rotate_left
          · (intro w hSw; (try dsimp only at hSw); go_simp; try (with_reducible rfl))
          simp only [List.getElem_toArray, List.getElem_cons_succ, List.getElem_cons_zero, Act.put, List.setIfInBounds_toArray, List.set_cons_zero, List.set_cons_succ]
          refine wpAnyH_take (i := 11) (v := ?_) rfl (by kernel_rfl) (by kernel_rfl) (by kernel_rfl) (fun _ _ _ h => h) (Or.inl ⟨rfl, ?_⟩) hHeld ?_
          rotate_left
          · (intro w hSw; (try dsimp only at hSw); go_simp; try (with_reducible rfl))
          simp only [List.getElem_toArray, List.getElem_cons_succ, List.getElem_cons_zero, Act.put, List.setIfInBounds_toArray, List.set_cons_zero, List.set_cons_succ]
          refine wpAnyH_take (i := 12) (v := ?_) rfl (by kernel_rfl) (by kernel_rfl) (by kernel_rfl) (fun _ _ _ h => h) (Or.inl ⟨rfl, ?_⟩) hHeld ?_
          rotate_left
          · (intro w hSw; (try dsimp only at hSw); go_simp; try (with_reducible rfl))
          simp only [List.getElem_toArray, List.getElem_cons_succ, List.getElem_cons_zero, Act.put, List.setIfInBounds_toArray, List.set_cons_zero, List.set_cons_succ]
          refine wpAnyH_ready (rs := [10]) (by kernel_rfl) (by simp) ?_
          refine AllReadyH.cons rfl (fun K hK => ?_) AllReadyH.nil
          simp only [List.getElem_toArray, List.getElem_cons_succ, List.getElem_cons_zero]
          go_simp
          go_wp2_with (first | (go_at_call 56; refine (D2.out _ (((Fr.refl [] w8).drew).trans hG1 (by simp))).mono ?_; rintro e v2 ⟨rfl, hG2⟩))
          refine hK.out _ _ (by first | (exact KP.out _ ((((Fr.refl [] w8).drew).trans hG1 (by simp)).trans hG2 (by simp))) | go_keep) (fun hHeld => ?_)
          clear hK K
          refine wpAnyH_ready (rs := [13]) (by kernel_rfl) (by simp) ?_
          refine AllReadyH.cons rfl (fun K hK => ?_) AllReadyH.nil
          simp only [List.getElem_toArray, List.getElem_cons_succ, List.getElem_cons_zero]
          go_simp
          go_wp2_with (first | (go_at_call 24; refine (D3.out _ ((((Fr.refl [] w8).drew).trans hG1 (by simp)).trans hG2 (by simp))).mono ?_; rintro e v3 ⟨rfl, hG3⟩))
          refine hK.out _ _ (by first | (exact KP.out _ (((((Fr.refl [] w8).drew).trans hG1 (by simp)).trans hG2 (by simp)).trans hG3 (by simp))) | go_keep) (fun hHeld => ?_)
          clear hK K
          refine wpAnyH_take (i := 14) (v := ?_) rfl (by kernel_rfl) (by kernel_rfl) (by kernel_rfl) (fun _ _ _ h => h) (Or.inl ⟨rfl, ?_⟩) hHeld ?_
          rotate_left
          · (intro w hSw; (try dsimp only at hSw); go_simp; try (with_reducible rfl))
          simp only [List.getElem_toArray, List.getElem_cons_succ, List.getElem_cons_zero, Act.put, List.setIfInBounds_toArray, List.set_cons_zero, List.set_cons_succ]
          refine wpAnyH_take (i := 15) (v := ?_) rfl (by kernel_rfl) (by kernel_rfl) (by kernel_rfl) (fun _ _ _ h => h) (Or.inl ⟨rfl, ?_⟩) hHeld ?_
          rotate_left
          · (intro w hSw; (try dsimp only at hSw); go_simp; try (with_reducible rfl))
          simp only [List.getElem_toArray, List.getElem_cons_succ, List.getElem_cons_zero, Act.put, List.setIfInBounds_toArray, List.set_cons_zero, List.set_cons_succ]
          refine wpAnyH_done (by kernel_rfl) ?_ _
          have FZ := Lib.hid (F78.out.trans (((((Fr.refl [] w8).drew).trans hG1 (by simp)).trans hG2 (by simp)).trans hG3 (by simp)) (by simp))
          clear hG1 hG2 hG3 KP D1 D2 D3 hHeld
          go_wp2_with fail
          go_roundg (N - (j + 1))
          case measure => omega
          case rel => exact ⟨j + 1, S6, _, _, _, rfl, by omega, rfl, rfl, IS7.out.fr FZ.out, GN.out, N7.out.fr FZ.out, AN7.out.fr FZ.out, BX7.out.fr FZ.out, cell_fr' X07.out FZ.out, cell_fr' X17.out FZ.out, HS7.out, F7.out.trans FZ.out (by simp)⟩
      by_cases hk2 : xk = 2
      · subst hk2
        by_cases hi0 : xi = 0
        · subst hi0
          have ea : actF (lone Fs M) 2 0 xa = (-1, 1, lone Fs M) := by show (-1, endF (lone Fs M) 0) = _; rw [lone_end0]
          clear hk0 hk1
          have C5 := act_is IS5.out GM.out (by omega) 2 0 xa
          rw [ea] at C5
          go_wp2_with fail
          refine C5.mono ?_
          rintro e w6 ⟨rfl, S6, hIS, hF, hS⟩
          have IS6 := Lib.hid hIS
          have HS6 := Lib.hid (fun y hy => (by rcases hS y hy with h | h; exact HS.out y h; exact Nat.le_trans F5.out.size h) : ∀ y ∈ S6, W.heap.size ≤ y)
          have F6 := Lib.hid (F5.out.trans hF (fun y hy => .inr (HS.out y hy)))
          have M6 := Lib.hid (M5.out.next hF A5.out)
          have A6 := Lib.hid (A5.out.next hF hS)
          have BX6 := Lib.hid (BX5.out.next hF hS)
          have x0 := (cell_frA BX5.out hF 0).trans X05.out
          have x1 := (cell_frA BX5.out hF 1).trans X15.out
          have t0 := (cell_frA TX5.out hF 0).trans T0.out
          have t1 := (cell_frA TX5.out hF 1).trans T1.out
          have t2 := (cell_frA TX5.out hF 2).trans T2.out
          clear hIS hF hS C5
          clear ea
          have F7 := F6
          have IS7 := IS6
          have N7 := M6
          have AN7 := A6
          have BX7 := BX6
          have X07 := Lib.hid x0
          have X17 := Lib.hid x1
          have HS7 := HS6
          have GN := GM
          have C8 := lone_mark IS7.out GN.out (by omega) (N7.out.1)
          go_wp2_with fail
          refine C8.mono ?_
          rintro e w8 ⟨am, cm, rfl, hM8, hF⟩
          have F8 := Lib.hid (F7.out.trans hF (by simp))
          have F78 := Lib.hid hF
          have KP := Lib.hid (fun w' (g : Fr [] w8 w') => (⟨cell_fr' (cell_fr' X07.out hF) g, cell_fr' (cell_fr' X17.out hF) g⟩ : w'.cell? ⟨bx, 0, none⟩ = some (.slice f.ea f.en f.ec) ∧ w'.cell? ⟨bx, 1, none⟩ = some (.slice f.ta f.tn f.tc)))
          have D1 := Lib.hid (fun w' (g : Fr [] w8 w') => (by
            have := marksame_any am a f.en f.en cm c (M) (M) w' (by omega) (by omega) (hM8.fr g) ((N7.out.fr hF).fr g)
            rwa [decide_eq_true (rfl : (M) = (M))] at this : Calls Try.prog 61 #[.slice am f.en cm, .slice a f.en c] w' fun e w'' => e = .returned (.bool true) ∧ Fr [] w' w''))
          obtain ⟨ba, hba⟩ : ∃ b, accB f.en (M) = b := ⟨_, rfl⟩
          have D2 := Lib.hid (fun w' (g : Fr [] w8 w') => (by
            have := done_is ((IS7.out.fr hF).fr g) GN.out (by omega)
            rwa [lone_done, HF0.out, show accB f.nrm.en (M) = ba from hba] at this : Calls Try.prog 56 #[.pointer (some ⟨tb, 0, none⟩)] w' fun e w'' => e = .returned (.bool ba) ∧ Fr [] w' w''))
          have D3 := Lib.hid (fun w' (g : Fr [] w8 w') => (by
            have := acc_any f a f.en c (M) w' ((N7.out.fr hF).fr g) (by omega)
            rwa [hba] at this : Calls Try.prog 24 #[.agg #[.slice f.ea f.en f.ec, .slice f.ta f.tn f.tc], .slice a f.en c] w' fun e w'' => e = .returned (.bool ba) ∧ Fr [] w' w''))
          clear hF hM8 C8 hba
          go_wp2_with fail
          refine wp_region_held_drew (S := (fun w' => w'.cell? ⟨bx, 0, none⟩ = some (.slice f.ea f.en f.ec) ∧ w'.cell? ⟨bx, 1, none⟩ = some (.slice f.ta f.tn f.tc))) (by kernel_rfl) (KP.out _ ((Fr.refl [] w8).drew)) (fun hHeld => ?_)
          refine wpAnyH_take (i := 0) (v := ?_) rfl (by kernel_rfl) (by kernel_rfl) (by kernel_rfl) (fun _ _ _ h => h) (Or.inl ⟨rfl, ?_⟩) hHeld ?_
          rotate_left
          · (intro w hSw; (try dsimp only at hSw); go_simp; try (with_reducible rfl))
          simp only [List.getElem_toArray, List.getElem_cons_succ, List.getElem_cons_zero, Act.put, List.setIfInBounds_toArray, List.set_cons_zero, List.set_cons_succ]
          refine wpAnyH_take (i := 1) (v := ?_) rfl (by kernel_rfl) (by kernel_rfl) (by kernel_rfl) (fun _ _ _ h => h) (Or.inl ⟨rfl, ?_⟩) hHeld ?_
          rotate_left
          · (intro w hSw; (try dsimp only at hSw); go_simp; try (with_reducible rfl))
          simp only [List.getElem_toArray, List.getElem_cons_succ, List.getElem_cons_zero, Act.put, List.setIfInBounds_toArray, List.set_cons_zero, List.set_cons_succ]
          refine wpAnyH_take (i := 2) (v := ?_) rfl (by kernel_rfl) (by kernel_rfl) (by kernel_rfl) (fun _ _ _ h => h) (Or.inl ⟨rfl, ?_⟩) hHeld ?_
          rotate_left
          · (intro w hSw; (try dsimp only at hSw); go_simp; try (with_reducible rfl))
          simp only [List.getElem_toArray, List.getElem_cons_succ, List.getElem_cons_zero, Act.put, List.setIfInBounds_toArray, List.set_cons_zero, List.set_cons_succ]
          refine wpAnyH_take (i := 3) (v := ?_) rfl (by kernel_rfl) (by kernel_rfl) (by kernel_rfl) (fun _ _ _ h => h) (Or.inl ⟨rfl, ?_⟩) hHeld ?_
          rotate_left
          · (intro w hSw; (try dsimp only at hSw); go_simp; try (with_reducible rfl))
          simp only [List.getElem_toArray, List.getElem_cons_succ, List.getElem_cons_zero, Act.put, List.setIfInBounds_toArray, List.set_cons_zero, List.set_cons_succ]
          refine wpAnyH_take (i := 4) (v := ?_) rfl (by kernel_rfl) (by kernel_rfl) (by kernel_rfl) (fun _ _ _ h => h) (Or.inl ⟨rfl, ?_⟩) hHeld ?_
          rotate_left
          · (intro w hSw; (try dsimp only at hSw); go_simp; try (with_reducible rfl))
          simp only [List.getElem_toArray, List.getElem_cons_succ, List.getElem_cons_zero, Act.put, List.setIfInBounds_toArray, List.set_cons_zero, List.set_cons_succ]
          refine wpAnyH_ready (rs := [5]) (by kernel_rfl) (by simp) ?_
          refine AllReadyH.cons rfl (fun K hK => ?_) AllReadyH.nil
          simp only [List.getElem_toArray, List.getElem_cons_succ, List.getElem_cons_zero]
          go_simp
          go_wp2_with (first | (go_at_call 61; refine (D1.out _ ((Fr.refl [] w8).drew)).mono ?_; rintro e v1 ⟨rfl, hG1⟩))
          refine hK.out _ _ (by first | (exact KP.out _ (((Fr.refl [] w8).drew).trans hG1 (by simp))) | go_keep) (fun hHeld => ?_)
          clear hK K
          refine wpAnyH_take (i := 6) (v := ?_) rfl (by kernel_rfl) (by kernel_rfl) (by kernel_rfl) (fun _ _ _ h => h) (Or.inl ⟨rfl, ?_⟩) hHeld ?_
          rotate_left
          · (intro w hSw; (try dsimp only at hSw); go_simp; try (with_reducible rfl))
          simp only [List.getElem_toArray, List.getElem_cons_succ, List.getElem_cons_zero, Act.put, List.setIfInBounds_toArray, List.set_cons_zero, List.set_cons_succ]
          refine wpAnyH_take (i := 7) (v := ?_) rfl (by kernel_rfl) (by kernel_rfl) (by kernel_rfl) (fun _ _ _ h => h) (Or.inl ⟨rfl, ?_⟩) hHeld ?_
          rotate_left
          · (intro w hSw; (try dsimp only at hSw); go_simp; try (with_reducible rfl))
          simp only [List.getElem_toArray, List.getElem_cons_succ, List.getElem_cons_zero, Act.put, List.setIfInBounds_toArray, List.set_cons_zero, List.set_cons_succ]
          refine wpAnyH_take (i := 8) (v := ?_) rfl (by kernel_rfl) (by kernel_rfl) (by kernel_rfl) (fun _ _ _ h => h) (Or.inl ⟨rfl, ?_⟩) hHeld ?_
          rotate_left
          · (intro w hSw; (try dsimp only at hSw); go_simp; try (with_reducible rfl))
          simp only [List.getElem_toArray, List.getElem_cons_succ, List.getElem_cons_zero, Act.put, List.setIfInBounds_toArray, List.set_cons_zero, List.set_cons_succ]
          refine wpAnyH_take (i := 9) (v := ?_) rfl (by kernel_rfl) (by kernel_rfl) (by kernel_rfl) (fun _ _ _ h => h) (Or.inl ⟨rfl, ?_⟩) hHeld ?_
          rotate_left
          · (intro w hSw; (try dsimp only at hSw); go_simp; try (with_reducible rfl))
          simp only [List.getElem_toArray, List.getElem_cons_succ, List.getElem_cons_zero, Act.put, List.setIfInBounds_toArray, List.set_cons_zero, List.set_cons_succ]
          refine wpAnyH_take (i := 11) (v := ?_) rfl (by kernel_rfl) (by kernel_rfl) (by kernel_rfl) (fun _ _ _ h => h) (Or.inl ⟨rfl, ?_⟩) hHeld ?_
          rotate_left
          · (intro w hSw; (try dsimp only at hSw); go_simp; try (with_reducible rfl))
          simp only [List.getElem_toArray, List.getElem_cons_succ, List.getElem_cons_zero, Act.put, List.setIfInBounds_toArray, List.set_cons_zero, List.set_cons_succ]
          refine wpAnyH_take (i := 12) (v := ?_) rfl (by kernel_rfl) (by kernel_rfl) (by kernel_rfl) (fun _ _ _ h => h) (Or.inl ⟨rfl, ?_⟩) hHeld ?_
          rotate_left
          · (intro w hSw; (try dsimp only at hSw); go_simp; try (with_reducible rfl))
          simp only [List.getElem_toArray, List.getElem_cons_succ, List.getElem_cons_zero, Act.put, List.setIfInBounds_toArray, List.set_cons_zero, List.set_cons_succ]
          refine wpAnyH_ready (rs := [10]) (by kernel_rfl) (by simp) ?_
          refine AllReadyH.cons rfl (fun K hK => ?_) AllReadyH.nil
          simp only [List.getElem_toArray, List.getElem_cons_succ, List.getElem_cons_zero]
          go_simp
          go_wp2_with (first | (go_at_call 56; refine (D2.out _ (((Fr.refl [] w8).drew).trans hG1 (by simp))).mono ?_; rintro e v2 ⟨rfl, hG2⟩))
          refine hK.out _ _ (by first | (exact KP.out _ ((((Fr.refl [] w8).drew).trans hG1 (by simp)).trans hG2 (by simp))) | go_keep) (fun hHeld => ?_)
          clear hK K
          refine wpAnyH_ready (rs := [13]) (by kernel_rfl) (by simp) ?_
          refine AllReadyH.cons rfl (fun K hK => ?_) AllReadyH.nil
          simp only [List.getElem_toArray, List.getElem_cons_succ, List.getElem_cons_zero]
          go_simp
          go_wp2_with (first | (go_at_call 24; refine (D3.out _ ((((Fr.refl [] w8).drew).trans hG1 (by simp)).trans hG2 (by simp))).mono ?_; rintro e v3 ⟨rfl, hG3⟩))
          refine hK.out _ _ (by first | (exact KP.out _ (((((Fr.refl [] w8).drew).trans hG1 (by simp)).trans hG2 (by simp)).trans hG3 (by simp))) | go_keep) (fun hHeld => ?_)
          clear hK K
          refine wpAnyH_take (i := 14) (v := ?_) rfl (by kernel_rfl) (by kernel_rfl) (by kernel_rfl) (fun _ _ _ h => h) (Or.inl ⟨rfl, ?_⟩) hHeld ?_
          rotate_left
          · (intro w hSw; (try dsimp only at hSw); go_simp; try (with_reducible rfl))
          simp only [List.getElem_toArray, List.getElem_cons_succ, List.getElem_cons_zero, Act.put, List.setIfInBounds_toArray, List.set_cons_zero, List.set_cons_succ]
          refine wpAnyH_take (i := 15) (v := ?_) rfl (by kernel_rfl) (by kernel_rfl) (by kernel_rfl) (fun _ _ _ h => h) (Or.inl ⟨rfl, ?_⟩) hHeld ?_
          rotate_left
          · (intro w hSw; (try dsimp only at hSw); go_simp; try (with_reducible rfl))
          simp only [List.getElem_toArray, List.getElem_cons_succ, List.getElem_cons_zero, Act.put, List.setIfInBounds_toArray, List.set_cons_zero, List.set_cons_succ]
          refine wpAnyH_done (by kernel_rfl) ?_ _
          have FZ := Lib.hid (F78.out.trans (((((Fr.refl [] w8).drew).trans hG1 (by simp)).trans hG2 (by simp)).trans hG3 (by simp)) (by simp))
          clear hG1 hG2 hG3 KP D1 D2 D3 hHeld
          go_wp2_with fail
          go_roundg (N - (j + 1))
          case measure => omega
          case rel => exact ⟨j + 1, S6, _, _, _, rfl, by omega, rfl, rfl, IS7.out.fr FZ.out, GN.out, N7.out.fr FZ.out, AN7.out.fr FZ.out, BX7.out.fr FZ.out, cell_fr' X07.out FZ.out, cell_fr' X17.out FZ.out, HS7.out, F7.out.trans FZ.out (by simp)⟩
        · have bi : (xi == 0) = false := by rw [beq_eq_false_iff_ne]; exact hi0
          have ea : actF (lone Fs M) 2 xi xa = (-1, 10, lone Fs M) := by show (-1, endF (lone Fs M) xi) = _; rw [lone_endN hi0]
          clear hi0 hk0 hk1
          have C5 := act_is IS5.out GM.out (by omega) 2 xi xa
          rw [ea] at C5
          go_wp2_with fail
          refine C5.mono ?_
          rintro e w6 ⟨rfl, S6, hIS, hF, hS⟩
          have IS6 := Lib.hid hIS
          have HS6 := Lib.hid (fun y hy => (by rcases hS y hy with h | h; exact HS.out y h; exact Nat.le_trans F5.out.size h) : ∀ y ∈ S6, W.heap.size ≤ y)
          have F6 := Lib.hid (F5.out.trans hF (fun y hy => .inr (HS.out y hy)))
          have M6 := Lib.hid (M5.out.next hF A5.out)
          have A6 := Lib.hid (A5.out.next hF hS)
          have BX6 := Lib.hid (BX5.out.next hF hS)
          have x0 := (cell_frA BX5.out hF 0).trans X05.out
          have x1 := (cell_frA BX5.out hF 1).trans X15.out
          have t0 := (cell_frA TX5.out hF 0).trans T0.out
          have t1 := (cell_frA TX5.out hF 1).trans T1.out
          have t2 := (cell_frA TX5.out hF 2).trans T2.out
          clear hIS hF hS C5
          clear ea
          have F7 := F6
          have IS7 := IS6
          have N7 := M6
          have AN7 := A6
          have BX7 := BX6
          have X07 := Lib.hid x0
          have X17 := Lib.hid x1
          have HS7 := HS6
          have GN := GM
          have C8 := lone_mark IS7.out GN.out (by omega) (N7.out.1)
          go_wp2_with fail
          refine C8.mono ?_
          rintro e w8 ⟨am, cm, rfl, hM8, hF⟩
          have F8 := Lib.hid (F7.out.trans hF (by simp))
          have F78 := Lib.hid hF
          have KP := Lib.hid (fun w' (g : Fr [] w8 w') => (⟨cell_fr' (cell_fr' X07.out hF) g, cell_fr' (cell_fr' X17.out hF) g⟩ : w'.cell? ⟨bx, 0, none⟩ = some (.slice f.ea f.en f.ec) ∧ w'.cell? ⟨bx, 1, none⟩ = some (.slice f.ta f.tn f.tc)))
          have D1 := Lib.hid (fun w' (g : Fr [] w8 w') => (by
            have := marksame_any am a f.en f.en cm c (M) (M) w' (by omega) (by omega) (hM8.fr g) ((N7.out.fr hF).fr g)
            rwa [decide_eq_true (rfl : (M) = (M))] at this : Calls Try.prog 61 #[.slice am f.en cm, .slice a f.en c] w' fun e w'' => e = .returned (.bool true) ∧ Fr [] w' w''))
          obtain ⟨ba, hba⟩ : ∃ b, accB f.en (M) = b := ⟨_, rfl⟩
          have D2 := Lib.hid (fun w' (g : Fr [] w8 w') => (by
            have := done_is ((IS7.out.fr hF).fr g) GN.out (by omega)
            rwa [lone_done, HF0.out, show accB f.nrm.en (M) = ba from hba] at this : Calls Try.prog 56 #[.pointer (some ⟨tb, 0, none⟩)] w' fun e w'' => e = .returned (.bool ba) ∧ Fr [] w' w''))
          have D3 := Lib.hid (fun w' (g : Fr [] w8 w') => (by
            have := acc_any f a f.en c (M) w' ((N7.out.fr hF).fr g) (by omega)
            rwa [hba] at this : Calls Try.prog 24 #[.agg #[.slice f.ea f.en f.ec, .slice f.ta f.tn f.tc], .slice a f.en c] w' fun e w'' => e = .returned (.bool ba) ∧ Fr [] w' w''))
          clear hF hM8 C8 hba
          go_wp2_with fail
          refine wp_region_held_drew (S := (fun w' => w'.cell? ⟨bx, 0, none⟩ = some (.slice f.ea f.en f.ec) ∧ w'.cell? ⟨bx, 1, none⟩ = some (.slice f.ta f.tn f.tc))) (by kernel_rfl) (KP.out _ ((Fr.refl [] w8).drew)) (fun hHeld => ?_)
          refine wpAnyH_take (i := 0) (v := ?_) rfl (by kernel_rfl) (by kernel_rfl) (by kernel_rfl) (fun _ _ _ h => h) (Or.inl ⟨rfl, ?_⟩) hHeld ?_
          rotate_left
          · (intro w hSw; (try dsimp only at hSw); go_simp; try (with_reducible rfl))
          simp only [List.getElem_toArray, List.getElem_cons_succ, List.getElem_cons_zero, Act.put, List.setIfInBounds_toArray, List.set_cons_zero, List.set_cons_succ]
          refine wpAnyH_take (i := 1) (v := ?_) rfl (by kernel_rfl) (by kernel_rfl) (by kernel_rfl) (fun _ _ _ h => h) (Or.inl ⟨rfl, ?_⟩) hHeld ?_
          rotate_left
          · (intro w hSw; (try dsimp only at hSw); go_simp; try (with_reducible rfl))
          simp only [List.getElem_toArray, List.getElem_cons_succ, List.getElem_cons_zero, Act.put, List.setIfInBounds_toArray, List.set_cons_zero, List.set_cons_succ]
          refine wpAnyH_take (i := 2) (v := ?_) rfl (by kernel_rfl) (by kernel_rfl) (by kernel_rfl) (fun _ _ _ h => h) (Or.inl ⟨rfl, ?_⟩) hHeld ?_
          rotate_left
          · (intro w hSw; (try dsimp only at hSw); go_simp; try (with_reducible rfl))
          simp only [List.getElem_toArray, List.getElem_cons_succ, List.getElem_cons_zero, Act.put, List.setIfInBounds_toArray, List.set_cons_zero, List.set_cons_succ]
          refine wpAnyH_take (i := 3) (v := ?_) rfl (by kernel_rfl) (by kernel_rfl) (by kernel_rfl) (fun _ _ _ h => h) (Or.inl ⟨rfl, ?_⟩) hHeld ?_
          rotate_left
          · (intro w hSw; (try dsimp only at hSw); go_simp; try (with_reducible rfl))
          simp only [List.getElem_toArray, List.getElem_cons_succ, List.getElem_cons_zero, Act.put, List.setIfInBounds_toArray, List.set_cons_zero, List.set_cons_succ]
          refine wpAnyH_take (i := 4) (v := ?_) rfl (by kernel_rfl) (by kernel_rfl) (by kernel_rfl) (fun _ _ _ h => h) (Or.inl ⟨rfl, ?_⟩) hHeld ?_
          rotate_left
          · (intro w hSw; (try dsimp only at hSw); go_simp; try (with_reducible rfl))
          simp only [List.getElem_toArray, List.getElem_cons_succ, List.getElem_cons_zero, Act.put, List.setIfInBounds_toArray, List.set_cons_zero, List.set_cons_succ]
          refine wpAnyH_ready (rs := [5]) (by kernel_rfl) (by simp) ?_
          refine AllReadyH.cons rfl (fun K hK => ?_) AllReadyH.nil
          simp only [List.getElem_toArray, List.getElem_cons_succ, List.getElem_cons_zero]
          go_simp
          go_wp2_with (first | (go_at_call 61; refine (D1.out _ ((Fr.refl [] w8).drew)).mono ?_; rintro e v1 ⟨rfl, hG1⟩))
          refine hK.out _ _ (by first | (exact KP.out _ (((Fr.refl [] w8).drew).trans hG1 (by simp))) | go_keep) (fun hHeld => ?_)
          clear hK K
          refine wpAnyH_take (i := 6) (v := ?_) rfl (by kernel_rfl) (by kernel_rfl) (by kernel_rfl) (fun _ _ _ h => h) (Or.inl ⟨rfl, ?_⟩) hHeld ?_
          rotate_left
          · (intro w hSw; (try dsimp only at hSw); go_simp; try (with_reducible rfl))
          simp only [List.getElem_toArray, List.getElem_cons_succ, List.getElem_cons_zero, Act.put, List.setIfInBounds_toArray, List.set_cons_zero, List.set_cons_succ]
          refine wpAnyH_take (i := 7) (v := ?_) rfl (by kernel_rfl) (by kernel_rfl) (by kernel_rfl) (fun _ _ _ h => h) (Or.inl ⟨rfl, ?_⟩) hHeld ?_
          rotate_left
          · (intro w hSw; (try dsimp only at hSw); go_simp; try (with_reducible rfl))
          simp only [List.getElem_toArray, List.getElem_cons_succ, List.getElem_cons_zero, Act.put, List.setIfInBounds_toArray, List.set_cons_zero, List.set_cons_succ]
          refine wpAnyH_take (i := 8) (v := ?_) rfl (by kernel_rfl) (by kernel_rfl) (by kernel_rfl) (fun _ _ _ h => h) (Or.inl ⟨rfl, ?_⟩) hHeld ?_
          rotate_left
          · (intro w hSw; (try dsimp only at hSw); go_simp; try (with_reducible rfl))
          simp only [List.getElem_toArray, List.getElem_cons_succ, List.getElem_cons_zero, Act.put, List.setIfInBounds_toArray, List.set_cons_zero, List.set_cons_succ]
          refine wpAnyH_take (i := 9) (v := ?_) rfl (by kernel_rfl) (by kernel_rfl) (by kernel_rfl) (fun _ _ _ h => h) (Or.inl ⟨rfl, ?_⟩) hHeld ?_
          rotate_left
          · (intro w hSw; (try dsimp only at hSw); go_simp; try (with_reducible rfl))
          simp only [List.getElem_toArray, List.getElem_cons_succ, List.getElem_cons_zero, Act.put, List.setIfInBounds_toArray, List.set_cons_zero, List.set_cons_succ]
          refine wpAnyH_take (i := 11) (v := ?_) rfl (by kernel_rfl) (by kernel_rfl) (by kernel_rfl) (fun _ _ _ h => h) (Or.inl ⟨rfl, ?_⟩) hHeld ?_
          rotate_left
          · (intro w hSw; (try dsimp only at hSw); go_simp; try (with_reducible rfl))
          simp only [List.getElem_toArray, List.getElem_cons_succ, List.getElem_cons_zero, Act.put, List.setIfInBounds_toArray, List.set_cons_zero, List.set_cons_succ]
          refine wpAnyH_take (i := 12) (v := ?_) rfl (by kernel_rfl) (by kernel_rfl) (by kernel_rfl) (fun _ _ _ h => h) (Or.inl ⟨rfl, ?_⟩) hHeld ?_
          rotate_left
          · (intro w hSw; (try dsimp only at hSw); go_simp; try (with_reducible rfl))
          simp only [List.getElem_toArray, List.getElem_cons_succ, List.getElem_cons_zero, Act.put, List.setIfInBounds_toArray, List.set_cons_zero, List.set_cons_succ]
          refine wpAnyH_ready (rs := [10]) (by kernel_rfl) (by simp) ?_
          refine AllReadyH.cons rfl (fun K hK => ?_) AllReadyH.nil
          simp only [List.getElem_toArray, List.getElem_cons_succ, List.getElem_cons_zero]
          go_simp
          go_wp2_with (first | (go_at_call 56; refine (D2.out _ (((Fr.refl [] w8).drew).trans hG1 (by simp))).mono ?_; rintro e v2 ⟨rfl, hG2⟩))
          refine hK.out _ _ (by first | (exact KP.out _ ((((Fr.refl [] w8).drew).trans hG1 (by simp)).trans hG2 (by simp))) | go_keep) (fun hHeld => ?_)
          clear hK K
          refine wpAnyH_ready (rs := [13]) (by kernel_rfl) (by simp) ?_
          refine AllReadyH.cons rfl (fun K hK => ?_) AllReadyH.nil
          simp only [List.getElem_toArray, List.getElem_cons_succ, List.getElem_cons_zero]
          go_simp
          go_wp2_with (first | (go_at_call 24; refine (D3.out _ ((((Fr.refl [] w8).drew).trans hG1 (by simp)).trans hG2 (by simp))).mono ?_; rintro e v3 ⟨rfl, hG3⟩))
          refine hK.out _ _ (by first | (exact KP.out _ (((((Fr.refl [] w8).drew).trans hG1 (by simp)).trans hG2 (by simp)).trans hG3 (by simp))) | go_keep) (fun hHeld => ?_)
          clear hK K
          refine wpAnyH_take (i := 14) (v := ?_) rfl (by kernel_rfl) (by kernel_rfl) (by kernel_rfl) (fun _ _ _ h => h) (Or.inl ⟨rfl, ?_⟩) hHeld ?_
          rotate_left
          · (intro w hSw; (try dsimp only at hSw); go_simp; try (with_reducible rfl))
          simp only [List.getElem_toArray, List.getElem_cons_succ, List.getElem_cons_zero, Act.put, List.setIfInBounds_toArray, List.set_cons_zero, List.set_cons_succ]
          refine wpAnyH_take (i := 15) (v := ?_) rfl (by kernel_rfl) (by kernel_rfl) (by kernel_rfl) (fun _ _ _ h => h) (Or.inl ⟨rfl, ?_⟩) hHeld ?_
          rotate_left
          · (intro w hSw; (try dsimp only at hSw); go_simp; try (with_reducible rfl))
          simp only [List.getElem_toArray, List.getElem_cons_succ, List.getElem_cons_zero, Act.put, List.setIfInBounds_toArray, List.set_cons_zero, List.set_cons_succ]
          refine wpAnyH_done (by kernel_rfl) ?_ _
          have FZ := Lib.hid (F78.out.trans (((((Fr.refl [] w8).drew).trans hG1 (by simp)).trans hG2 (by simp)).trans hG3 (by simp)) (by simp))
          clear hG1 hG2 hG3 KP D1 D2 D3 hHeld
          go_wp2_with fail
          go_roundg (N - (j + 1))
          case measure => omega
          case rel => exact ⟨j + 1, S6, _, _, _, rfl, by omega, rfl, rfl, IS7.out.fr FZ.out, GN.out, N7.out.fr FZ.out, AN7.out.fr FZ.out, BX7.out.fr FZ.out, cell_fr' X07.out FZ.out, cell_fr' X17.out FZ.out, HS7.out, F7.out.trans FZ.out (by simp)⟩
      by_cases hk3 : xk = 3
      · subst hk3
        clear hk0 hk1 hk2
        by_cases hE : tickE f M = 0
        · have HE := Lib.hid hE
          have ea : actF (lone Fs M) 3 xi xa = (-1, 0, lone Fs (M.map tickM)) := by
            have := lone_tick0 (Fs := Fs) (M := M) HFIT.out (by rw [HF0.out]; exact hE)
            show (-1, tickF (lone Fs M)) = _
            rw [this]
          clear hE
          have C5 := act_is IS5.out GM.out (by omega) 3 xi xa
          rw [ea] at C5
          go_wp2_with fail
          refine C5.mono ?_
          rintro e w6 ⟨rfl, S6, hIS, hF, hS⟩
          have IS6 := Lib.hid hIS
          have HS6 := Lib.hid (fun y hy => (by rcases hS y hy with h | h; exact HS.out y h; exact Nat.le_trans F5.out.size h) : ∀ y ∈ S6, W.heap.size ≤ y)
          have F6 := Lib.hid (F5.out.trans hF (fun y hy => .inr (HS.out y hy)))
          have M6 := Lib.hid (M5.out.next hF A5.out)
          have A6 := Lib.hid (A5.out.next hF hS)
          have BX6 := Lib.hid (BX5.out.next hF hS)
          have x0 := (cell_frA BX5.out hF 0).trans X05.out
          have x1 := (cell_frA BX5.out hF 1).trans X15.out
          have t0 := (cell_frA TX5.out hF 0).trans T0.out
          have t1 := (cell_frA TX5.out hF 1).trans T1.out
          have t2 := (cell_frA TX5.out hF 2).trans T2.out
          clear hIS hF hS C5
          have C7 := tick_fresh f a f.en c M w6 M6.out (by omega)
          rw [HE.out] at C7
          unfold FlatD.val at C7
          have hfn := tick_fits f.en M (by have := HFIT.out; rw [HF0.out] at this; exact this)
          have C7b := C7.mono fun e w' h => nextF_ok0 h
          have FN := Lib.hid hfn
          clear C7 hfn ea
          go_wp2_with fail
          refine C7b.mono ?_
          intro e w7 hNO
          obtain ⟨a7, c7, rfl, hM7, hF, hfr⟩ := hNO
          rw [fits_len FN.out] at hM7 ⊢
          have N7 := Lib.hid hM7
          have AN7 := Lib.hid (Apart.new IS6.out (fun g o _ he => hfr g o he) hM7.2.lt)
          have GN := Lib.hid (lone_good GM.out (N := M.map tickM) (by rw [HF0.out]; exact FN.out))
          have F7 := Lib.hid (F6.out.trans hF (by simp))
          have IS7 := Lib.hid (IS6.out.fr hF)
          have BX7 := Lib.hid (BX6.out.fr hF)
          have X07 := Lib.hid (cell_fr' x0 hF)
          have X17 := Lib.hid (cell_fr' x1 hF)
          have HS7 := HS6
          clear hF hfr hM7 C7b x0 x1 t0 t1 t2
          have C8 := lone_mark IS7.out GN.out (by omega) (N7.out.1)
          go_wp2_with fail
          refine C8.mono ?_
          rintro e w8 ⟨am, cm, rfl, hM8, hF⟩
          have F8 := Lib.hid (F7.out.trans hF (by simp))
          have F78 := Lib.hid hF
          have KP := Lib.hid (fun w' (g : Fr [] w8 w') => (⟨cell_fr' (cell_fr' X07.out hF) g, cell_fr' (cell_fr' X17.out hF) g⟩ : w'.cell? ⟨bx, 0, none⟩ = some (.slice f.ea f.en f.ec) ∧ w'.cell? ⟨bx, 1, none⟩ = some (.slice f.ta f.tn f.tc)))
          have D1 := Lib.hid (fun w' (g : Fr [] w8 w') => (by
            have := marksame_any am a7 f.en f.en cm c7 (M.map tickM) (M.map tickM) w' (by omega) (by omega) (hM8.fr g) ((N7.out.fr hF).fr g)
            rwa [decide_eq_true (rfl : (M.map tickM) = (M.map tickM))] at this : Calls Try.prog 61 #[.slice am f.en cm, .slice a7 f.en c7] w' fun e w'' => e = .returned (.bool true) ∧ Fr [] w' w''))
          obtain ⟨ba, hba⟩ : ∃ b, accB f.en (M.map tickM) = b := ⟨_, rfl⟩
          have D2 := Lib.hid (fun w' (g : Fr [] w8 w') => (by
            have := done_is ((IS7.out.fr hF).fr g) GN.out (by omega)
            rwa [lone_done, HF0.out, show accB f.nrm.en (M.map tickM) = ba from hba] at this : Calls Try.prog 56 #[.pointer (some ⟨tb, 0, none⟩)] w' fun e w'' => e = .returned (.bool ba) ∧ Fr [] w' w''))
          have D3 := Lib.hid (fun w' (g : Fr [] w8 w') => (by
            have := acc_any f a7 f.en c7 (M.map tickM) w' ((N7.out.fr hF).fr g) (by omega)
            rwa [hba] at this : Calls Try.prog 24 #[.agg #[.slice f.ea f.en f.ec, .slice f.ta f.tn f.tc], .slice a7 f.en c7] w' fun e w'' => e = .returned (.bool ba) ∧ Fr [] w' w''))
          clear hF hM8 C8 hba
          go_wp2_with fail
          refine wp_region_held_drew (S := (fun w' => w'.cell? ⟨bx, 0, none⟩ = some (.slice f.ea f.en f.ec) ∧ w'.cell? ⟨bx, 1, none⟩ = some (.slice f.ta f.tn f.tc))) (by kernel_rfl) (KP.out _ ((Fr.refl [] w8).drew)) (fun hHeld => ?_)
          refine wpAnyH_take (i := 0) (v := ?_) rfl (by kernel_rfl) (by kernel_rfl) (by kernel_rfl) (fun _ _ _ h => h) (Or.inl ⟨rfl, ?_⟩) hHeld ?_
          rotate_left
          · (intro w hSw; (try dsimp only at hSw); go_simp; try (with_reducible rfl))
          simp only [List.getElem_toArray, List.getElem_cons_succ, List.getElem_cons_zero, Act.put, List.setIfInBounds_toArray, List.set_cons_zero, List.set_cons_succ]
          refine wpAnyH_take (i := 1) (v := ?_) rfl (by kernel_rfl) (by kernel_rfl) (by kernel_rfl) (fun _ _ _ h => h) (Or.inl ⟨rfl, ?_⟩) hHeld ?_
          rotate_left
          · (intro w hSw; (try dsimp only at hSw); go_simp; try (with_reducible rfl))
          simp only [List.getElem_toArray, List.getElem_cons_succ, List.getElem_cons_zero, Act.put, List.setIfInBounds_toArray, List.set_cons_zero, List.set_cons_succ]
          refine wpAnyH_take (i := 2) (v := ?_) rfl (by kernel_rfl) (by kernel_rfl) (by kernel_rfl) (fun _ _ _ h => h) (Or.inl ⟨rfl, ?_⟩) hHeld ?_
          rotate_left
          · (intro w hSw; (try dsimp only at hSw); go_simp; try (with_reducible rfl))
          simp only [List.getElem_toArray, List.getElem_cons_succ, List.getElem_cons_zero, Act.put, List.setIfInBounds_toArray, List.set_cons_zero, List.set_cons_succ]
          refine wpAnyH_take (i := 3) (v := ?_) rfl (by kernel_rfl) (by kernel_rfl) (by kernel_rfl) (fun _ _ _ h => h) (Or.inl ⟨rfl, ?_⟩) hHeld ?_
          rotate_left
          · (intro w hSw; (try dsimp only at hSw); go_simp; try (with_reducible rfl))
          simp only [List.getElem_toArray, List.getElem_cons_succ, List.getElem_cons_zero, Act.put, List.setIfInBounds_toArray, List.set_cons_zero, List.set_cons_succ]
          refine wpAnyH_take (i := 4) (v := ?_) rfl (by kernel_rfl) (by kernel_rfl) (by kernel_rfl) (fun _ _ _ h => h) (Or.inl ⟨rfl, ?_⟩) hHeld ?_
          rotate_left
          · (intro w hSw; (try dsimp only at hSw); go_simp; try (with_reducible rfl))
          simp only [List.getElem_toArray, List.getElem_cons_succ, List.getElem_cons_zero, Act.put, List.setIfInBounds_toArray, List.set_cons_zero, List.set_cons_succ]
          refine wpAnyH_ready (rs := [5]) (by kernel_rfl) (by simp) ?_
          refine AllReadyH.cons rfl (fun K hK => ?_) AllReadyH.nil
          simp only [List.getElem_toArray, List.getElem_cons_succ, List.getElem_cons_zero]
          go_simp
          go_wp2_with (first | (go_at_call 61; refine (D1.out _ ((Fr.refl [] w8).drew)).mono ?_; rintro e v1 ⟨rfl, hG1⟩))
          refine hK.out _ _ (by first | (exact KP.out _ (((Fr.refl [] w8).drew).trans hG1 (by simp))) | go_keep) (fun hHeld => ?_)
          clear hK K
          refine wpAnyH_take (i := 6) (v := ?_) rfl (by kernel_rfl) (by kernel_rfl) (by kernel_rfl) (fun _ _ _ h => h) (Or.inl ⟨rfl, ?_⟩) hHeld ?_
          rotate_left
          · (intro w hSw; (try dsimp only at hSw); go_simp; try (with_reducible rfl))
          simp only [List.getElem_toArray, List.getElem_cons_succ, List.getElem_cons_zero, Act.put, List.setIfInBounds_toArray, List.set_cons_zero, List.set_cons_succ]
          refine wpAnyH_take (i := 7) (v := ?_) rfl (by kernel_rfl) (by kernel_rfl) (by kernel_rfl) (fun _ _ _ h => h) (Or.inl ⟨rfl, ?_⟩) hHeld ?_
          rotate_left
          · (intro w hSw; (try dsimp only at hSw); go_simp; try (with_reducible rfl))
          simp only [List.getElem_toArray, List.getElem_cons_succ, List.getElem_cons_zero, Act.put, List.setIfInBounds_toArray, List.set_cons_zero, List.set_cons_succ]
          refine wpAnyH_take (i := 8) (v := ?_) rfl (by kernel_rfl) (by kernel_rfl) (by kernel_rfl) (fun _ _ _ h => h) (Or.inl ⟨rfl, ?_⟩) hHeld ?_
          rotate_left
          · (intro w hSw; (try dsimp only at hSw); go_simp; try (with_reducible rfl))
          simp only [List.getElem_toArray, List.getElem_cons_succ, List.getElem_cons_zero, Act.put, List.setIfInBounds_toArray, List.set_cons_zero, List.set_cons_succ]
          refine wpAnyH_take (i := 9) (v := ?_) rfl (by kernel_rfl) (by kernel_rfl) (by kernel_rfl) (fun _ _ _ h => h) (Or.inl ⟨rfl, ?_⟩) hHeld ?_
          rotate_left
          · (intro w hSw; (try dsimp only at hSw); go_simp; try (with_reducible rfl))
          simp only [List.getElem_toArray, List.getElem_cons_succ, List.getElem_cons_zero, Act.put, List.setIfInBounds_toArray, List.set_cons_zero, List.set_cons_succ]
          refine wpAnyH_take (i := 11) (v := ?_) rfl (by kernel_rfl) (by kernel_rfl) (by kernel_rfl) (fun _ _ _ h => h) (Or.inl ⟨rfl, ?_⟩) hHeld ?_
          rotate_left
          · (intro w hSw; (try dsimp only at hSw); go_simp; try (with_reducible rfl))
          simp only [List.getElem_toArray, List.getElem_cons_succ, List.getElem_cons_zero, Act.put, List.setIfInBounds_toArray, List.set_cons_zero, List.set_cons_succ]
          refine wpAnyH_take (i := 12) (v := ?_) rfl (by kernel_rfl) (by kernel_rfl) (by kernel_rfl) (fun _ _ _ h => h) (Or.inl ⟨rfl, ?_⟩) hHeld ?_
          rotate_left
          · (intro w hSw; (try dsimp only at hSw); go_simp; try (with_reducible rfl))
          simp only [List.getElem_toArray, List.getElem_cons_succ, List.getElem_cons_zero, Act.put, List.setIfInBounds_toArray, List.set_cons_zero, List.set_cons_succ]
          refine wpAnyH_ready (rs := [10]) (by kernel_rfl) (by simp) ?_
          refine AllReadyH.cons rfl (fun K hK => ?_) AllReadyH.nil
          simp only [List.getElem_toArray, List.getElem_cons_succ, List.getElem_cons_zero]
          go_simp
          go_wp2_with (first | (go_at_call 56; refine (D2.out _ (((Fr.refl [] w8).drew).trans hG1 (by simp))).mono ?_; rintro e v2 ⟨rfl, hG2⟩))
          refine hK.out _ _ (by first | (exact KP.out _ ((((Fr.refl [] w8).drew).trans hG1 (by simp)).trans hG2 (by simp))) | go_keep) (fun hHeld => ?_)
          clear hK K
          refine wpAnyH_ready (rs := [13]) (by kernel_rfl) (by simp) ?_
          refine AllReadyH.cons rfl (fun K hK => ?_) AllReadyH.nil
          simp only [List.getElem_toArray, List.getElem_cons_succ, List.getElem_cons_zero]
          go_simp
          go_wp2_with (first | (go_at_call 24; refine (D3.out _ ((((Fr.refl [] w8).drew).trans hG1 (by simp)).trans hG2 (by simp))).mono ?_; rintro e v3 ⟨rfl, hG3⟩))
          refine hK.out _ _ (by first | (exact KP.out _ (((((Fr.refl [] w8).drew).trans hG1 (by simp)).trans hG2 (by simp)).trans hG3 (by simp))) | go_keep) (fun hHeld => ?_)
          clear hK K
          refine wpAnyH_take (i := 14) (v := ?_) rfl (by kernel_rfl) (by kernel_rfl) (by kernel_rfl) (fun _ _ _ h => h) (Or.inl ⟨rfl, ?_⟩) hHeld ?_
          rotate_left
          · (intro w hSw; (try dsimp only at hSw); go_simp; try (with_reducible rfl))
          simp only [List.getElem_toArray, List.getElem_cons_succ, List.getElem_cons_zero, Act.put, List.setIfInBounds_toArray, List.set_cons_zero, List.set_cons_succ]
          refine wpAnyH_take (i := 15) (v := ?_) rfl (by kernel_rfl) (by kernel_rfl) (by kernel_rfl) (fun _ _ _ h => h) (Or.inl ⟨rfl, ?_⟩) hHeld ?_
          rotate_left
          · (intro w hSw; (try dsimp only at hSw); go_simp; try (with_reducible rfl))
          simp only [List.getElem_toArray, List.getElem_cons_succ, List.getElem_cons_zero, Act.put, List.setIfInBounds_toArray, List.set_cons_zero, List.set_cons_succ]
          refine wpAnyH_done (by kernel_rfl) ?_ _
          have FZ := Lib.hid (F78.out.trans (((((Fr.refl [] w8).drew).trans hG1 (by simp)).trans hG2 (by simp)).trans hG3 (by simp)) (by simp))
          clear hG1 hG2 hG3 KP D1 D2 D3 hHeld
          go_wp2_with fail
          go_roundg (N - (j + 1))
          case measure => omega
          case rel => exact ⟨j + 1, S6, _, _, _, rfl, by omega, rfl, rfl, IS7.out.fr FZ.out, GN.out, N7.out.fr FZ.out, AN7.out.fr FZ.out, BX7.out.fr FZ.out, cell_fr' X07.out FZ.out, cell_fr' X17.out FZ.out, HS7.out, F7.out.trans FZ.out (by simp)⟩
        · have hT := lone_tickE (Fs := Fs) (M := M) HFIT.out (by rw [HF0.out]; exact hE)
          rw [HF0.out] at hT
          have HE := Lib.hid (show tickE f M = 13 from hT.1)
          have ea : actF (lone Fs M) 3 xi xa = (-1, 13, lone Fs M) := by
            show (-1, tickF (lone Fs M)) = _
            rw [hT.2]
          clear hE hT
          have C5 := act_is IS5.out GM.out (by omega) 3 xi xa
          rw [ea] at C5
          go_wp2_with fail
          refine C5.mono ?_
          rintro e w6 ⟨rfl, S6, hIS, hF, hS⟩
          have IS6 := Lib.hid hIS
          have HS6 := Lib.hid (fun y hy => (by rcases hS y hy with h | h; exact HS.out y h; exact Nat.le_trans F5.out.size h) : ∀ y ∈ S6, W.heap.size ≤ y)
          have F6 := Lib.hid (F5.out.trans hF (fun y hy => .inr (HS.out y hy)))
          have M6 := Lib.hid (M5.out.next hF A5.out)
          have A6 := Lib.hid (A5.out.next hF hS)
          have BX6 := Lib.hid (BX5.out.next hF hS)
          have x0 := (cell_frA BX5.out hF 0).trans X05.out
          have x1 := (cell_frA BX5.out hF 1).trans X15.out
          have t0 := (cell_frA TX5.out hF 0).trans T0.out
          have t1 := (cell_frA TX5.out hF 1).trans T1.out
          have t2 := (cell_frA TX5.out hF 2).trans T2.out
          clear hIS hF hS C5
          have C7 := tick_fresh f a f.en c M w6 M6.out (by omega)
          rw [HE.out] at C7
          unfold FlatD.val at C7
          have C7b := C7.mono fun e w' h => nextF_bad (by decide) h
          clear C7 ea
          go_wp2_with fail
          refine C7b.mono ?_
          rintro e w7 ⟨a7, c7, rfl, hF⟩
          have N7 := Lib.hid (M6.out.fr hF)
          have AN7 := Lib.hid (A6.out.fr hF)
          have GN := GM
          have F7 := Lib.hid (F6.out.trans hF (by simp))
          have IS7 := Lib.hid (IS6.out.fr hF)
          have BX7 := Lib.hid (BX6.out.fr hF)
          have X07 := Lib.hid (cell_fr' x0 hF)
          have X17 := Lib.hid (cell_fr' x1 hF)
          have HS7 := HS6
          clear hF C7b x0 x1 t0 t1 t2
          have C8 := lone_mark IS7.out GN.out (by omega) (N7.out.1)
          go_wp2_with fail
          refine C8.mono ?_
          rintro e w8 ⟨am, cm, rfl, hM8, hF⟩
          have F8 := Lib.hid (F7.out.trans hF (by simp))
          have F78 := Lib.hid hF
          have KP := Lib.hid (fun w' (g : Fr [] w8 w') => (⟨cell_fr' (cell_fr' X07.out hF) g, cell_fr' (cell_fr' X17.out hF) g⟩ : w'.cell? ⟨bx, 0, none⟩ = some (.slice f.ea f.en f.ec) ∧ w'.cell? ⟨bx, 1, none⟩ = some (.slice f.ta f.tn f.tc)))
          have D1 := Lib.hid (fun w' (g : Fr [] w8 w') => (by
            have := marksame_any am a f.en f.en cm c (M) (M) w' (by omega) (by omega) (hM8.fr g) ((N7.out.fr hF).fr g)
            rwa [decide_eq_true (rfl : (M) = (M))] at this : Calls Try.prog 61 #[.slice am f.en cm, .slice a f.en c] w' fun e w'' => e = .returned (.bool true) ∧ Fr [] w' w''))
          obtain ⟨ba, hba⟩ : ∃ b, accB f.en (M) = b := ⟨_, rfl⟩
          have D2 := Lib.hid (fun w' (g : Fr [] w8 w') => (by
            have := done_is ((IS7.out.fr hF).fr g) GN.out (by omega)
            rwa [lone_done, HF0.out, show accB f.nrm.en (M) = ba from hba] at this : Calls Try.prog 56 #[.pointer (some ⟨tb, 0, none⟩)] w' fun e w'' => e = .returned (.bool ba) ∧ Fr [] w' w''))
          have D3 := Lib.hid (fun w' (g : Fr [] w8 w') => (by
            have := acc_any f a f.en c (M) w' ((N7.out.fr hF).fr g) (by omega)
            rwa [hba] at this : Calls Try.prog 24 #[.agg #[.slice f.ea f.en f.ec, .slice f.ta f.tn f.tc], .slice a f.en c] w' fun e w'' => e = .returned (.bool ba) ∧ Fr [] w' w''))
          clear hF hM8 C8 hba
          go_wp2_with fail
          refine wp_region_held_drew (S := (fun w' => w'.cell? ⟨bx, 0, none⟩ = some (.slice f.ea f.en f.ec) ∧ w'.cell? ⟨bx, 1, none⟩ = some (.slice f.ta f.tn f.tc))) (by kernel_rfl) (KP.out _ ((Fr.refl [] w8).drew)) (fun hHeld => ?_)
          refine wpAnyH_take (i := 0) (v := ?_) rfl (by kernel_rfl) (by kernel_rfl) (by kernel_rfl) (fun _ _ _ h => h) (Or.inl ⟨rfl, ?_⟩) hHeld ?_
          rotate_left
          · (intro w hSw; (try dsimp only at hSw); go_simp; try (with_reducible rfl))
          simp only [List.getElem_toArray, List.getElem_cons_succ, List.getElem_cons_zero, Act.put, List.setIfInBounds_toArray, List.set_cons_zero, List.set_cons_succ]
          refine wpAnyH_take (i := 1) (v := ?_) rfl (by kernel_rfl) (by kernel_rfl) (by kernel_rfl) (fun _ _ _ h => h) (Or.inl ⟨rfl, ?_⟩) hHeld ?_
          rotate_left
          · (intro w hSw; (try dsimp only at hSw); go_simp; try (with_reducible rfl))
          simp only [List.getElem_toArray, List.getElem_cons_succ, List.getElem_cons_zero, Act.put, List.setIfInBounds_toArray, List.set_cons_zero, List.set_cons_succ]
          refine wpAnyH_take (i := 2) (v := ?_) rfl (by kernel_rfl) (by kernel_rfl) (by kernel_rfl) (fun _ _ _ h => h) (Or.inl ⟨rfl, ?_⟩) hHeld ?_
          rotate_left
          · (intro w hSw; (try dsimp only at hSw); go_simp; try (with_reducible rfl))
          simp only [List.getElem_toArray, List.getElem_cons_succ, List.getElem_cons_zero, Act.put, List.setIfInBounds_toArray, List.set_cons_zero, List.set_cons_succ]
          refine wpAnyH_take (i := 3) (v := ?_) rfl (by kernel_rfl) (by kernel_rfl) (by kernel_rfl) (fun _ _ _ h => h) (Or.inl ⟨rfl, ?_⟩) hHeld ?_
          rotate_left
          · (intro w hSw; (try dsimp only at hSw); go_simp; try (with_reducible rfl))
          simp only [List.getElem_toArray, List.getElem_cons_succ, List.getElem_cons_zero, Act.put, List.setIfInBounds_toArray, List.set_cons_zero, List.set_cons_succ]
          refine wpAnyH_take (i := 4) (v := ?_) rfl (by kernel_rfl) (by kernel_rfl) (by kernel_rfl) (fun _ _ _ h => h) (Or.inl ⟨rfl, ?_⟩) hHeld ?_
          rotate_left
          · (intro w hSw; (try dsimp only at hSw); go_simp; try (with_reducible rfl))
          simp only [List.getElem_toArray, List.getElem_cons_succ, List.getElem_cons_zero, Act.put, List.setIfInBounds_toArray, List.set_cons_zero, List.set_cons_succ]
          refine wpAnyH_ready (rs := [5]) (by kernel_rfl) (by simp) ?_
          refine AllReadyH.cons rfl (fun K hK => ?_) AllReadyH.nil
          simp only [List.getElem_toArray, List.getElem_cons_succ, List.getElem_cons_zero]
          go_simp
          go_wp2_with (first | (go_at_call 61; refine (D1.out _ ((Fr.refl [] w8).drew)).mono ?_; rintro e v1 ⟨rfl, hG1⟩))
          refine hK.out _ _ (by first | (exact KP.out _ (((Fr.refl [] w8).drew).trans hG1 (by simp))) | go_keep) (fun hHeld => ?_)
          clear hK K
          refine wpAnyH_take (i := 6) (v := ?_) rfl (by kernel_rfl) (by kernel_rfl) (by kernel_rfl) (fun _ _ _ h => h) (Or.inl ⟨rfl, ?_⟩) hHeld ?_
          rotate_left
          · (intro w hSw; (try dsimp only at hSw); go_simp; try (with_reducible rfl))
          simp only [List.getElem_toArray, List.getElem_cons_succ, List.getElem_cons_zero, Act.put, List.setIfInBounds_toArray, List.set_cons_zero, List.set_cons_succ]
          refine wpAnyH_take (i := 7) (v := ?_) rfl (by kernel_rfl) (by kernel_rfl) (by kernel_rfl) (fun _ _ _ h => h) (Or.inl ⟨rfl, ?_⟩) hHeld ?_
          rotate_left
          · (intro w hSw; (try dsimp only at hSw); go_simp; try (with_reducible rfl))
          simp only [List.getElem_toArray, List.getElem_cons_succ, List.getElem_cons_zero, Act.put, List.setIfInBounds_toArray, List.set_cons_zero, List.set_cons_succ]
          refine wpAnyH_take (i := 8) (v := ?_) rfl (by kernel_rfl) (by kernel_rfl) (by kernel_rfl) (fun _ _ _ h => h) (Or.inl ⟨rfl, ?_⟩) hHeld ?_
          rotate_left
          · (intro w hSw; (try dsimp only at hSw); go_simp; try (with_reducible rfl))
          simp only [List.getElem_toArray, List.getElem_cons_succ, List.getElem_cons_zero, Act.put, List.setIfInBounds_toArray, List.set_cons_zero, List.set_cons_succ]
          refine wpAnyH_take (i := 9) (v := ?_) rfl (by kernel_rfl) (by kernel_rfl) (by kernel_rfl) (fun _ _ _ h => h) (Or.inl ⟨rfl, ?_⟩) hHeld ?_
          rotate_left
          · (intro w hSw; (try dsimp only at hSw); go_simp; try (with_reducible rfl))
          simp only [List.getElem_toArray, List.getElem_cons_succ, List.getElem_cons_zero, Act.put, List.setIfInBounds_toArray, List.set_cons_zero, List.set_cons_succ]
          refine wpAnyH_take (i := 11) (v := ?_) rfl (by kernel_rfl) (by kernel_rfl) (by kernel_rfl) (fun _ _ _ h => h) (Or.inl ⟨rfl, ?_⟩) hHeld ?_
          rotate_left
          · (intro w hSw; (try dsimp only at hSw); go_simp; try (with_reducible rfl))
          simp only [List.getElem_toArray, List.getElem_cons_succ, List.getElem_cons_zero, Act.put, List.setIfInBounds_toArray, List.set_cons_zero, List.set_cons_succ]
          refine wpAnyH_take (i := 12) (v := ?_) rfl (by kernel_rfl) (by kernel_rfl) (by kernel_rfl) (fun _ _ _ h => h) (Or.inl ⟨rfl, ?_⟩) hHeld ?_
          rotate_left
          · (intro w hSw; (try dsimp only at hSw); go_simp; try (with_reducible rfl))
          simp only [List.getElem_toArray, List.getElem_cons_succ, List.getElem_cons_zero, Act.put, List.setIfInBounds_toArray, List.set_cons_zero, List.set_cons_succ]
          refine wpAnyH_ready (rs := [10]) (by kernel_rfl) (by simp) ?_
          refine AllReadyH.cons rfl (fun K hK => ?_) AllReadyH.nil
          simp only [List.getElem_toArray, List.getElem_cons_succ, List.getElem_cons_zero]
          go_simp
          go_wp2_with (first | (go_at_call 56; refine (D2.out _ (((Fr.refl [] w8).drew).trans hG1 (by simp))).mono ?_; rintro e v2 ⟨rfl, hG2⟩))
          refine hK.out _ _ (by first | (exact KP.out _ ((((Fr.refl [] w8).drew).trans hG1 (by simp)).trans hG2 (by simp))) | go_keep) (fun hHeld => ?_)
          clear hK K
          refine wpAnyH_ready (rs := [13]) (by kernel_rfl) (by simp) ?_
          refine AllReadyH.cons rfl (fun K hK => ?_) AllReadyH.nil
          simp only [List.getElem_toArray, List.getElem_cons_succ, List.getElem_cons_zero]
          go_simp
          go_wp2_with (first | (go_at_call 24; refine (D3.out _ ((((Fr.refl [] w8).drew).trans hG1 (by simp)).trans hG2 (by simp))).mono ?_; rintro e v3 ⟨rfl, hG3⟩))
          refine hK.out _ _ (by first | (exact KP.out _ (((((Fr.refl [] w8).drew).trans hG1 (by simp)).trans hG2 (by simp)).trans hG3 (by simp))) | go_keep) (fun hHeld => ?_)
          clear hK K
          refine wpAnyH_take (i := 14) (v := ?_) rfl (by kernel_rfl) (by kernel_rfl) (by kernel_rfl) (fun _ _ _ h => h) (Or.inl ⟨rfl, ?_⟩) hHeld ?_
          rotate_left
          · (intro w hSw; (try dsimp only at hSw); go_simp; try (with_reducible rfl))
          simp only [List.getElem_toArray, List.getElem_cons_succ, List.getElem_cons_zero, Act.put, List.setIfInBounds_toArray, List.set_cons_zero, List.set_cons_succ]
          refine wpAnyH_take (i := 15) (v := ?_) rfl (by kernel_rfl) (by kernel_rfl) (by kernel_rfl) (fun _ _ _ h => h) (Or.inl ⟨rfl, ?_⟩) hHeld ?_
          rotate_left
          · (intro w hSw; (try dsimp only at hSw); go_simp; try (with_reducible rfl))
          simp only [List.getElem_toArray, List.getElem_cons_succ, List.getElem_cons_zero, Act.put, List.setIfInBounds_toArray, List.set_cons_zero, List.set_cons_succ]
          refine wpAnyH_done (by kernel_rfl) ?_ _
          have FZ := Lib.hid (F78.out.trans (((((Fr.refl [] w8).drew).trans hG1 (by simp)).trans hG2 (by simp)).trans hG3 (by simp)) (by simp))
          clear hG1 hG2 hG3 KP D1 D2 D3 hHeld
          go_wp2_with fail
          go_roundg (N - (j + 1))
          case measure => omega
          case rel => exact ⟨j + 1, S6, _, _, _, rfl, by omega, rfl, rfl, IS7.out.fr FZ.out, GN.out, N7.out.fr FZ.out, AN7.out.fr FZ.out, BX7.out.fr FZ.out, cell_fr' X07.out FZ.out, cell_fr' X17.out FZ.out, HS7.out, F7.out.trans FZ.out (by simp)⟩
      have b0 : (xk == 0) = false := by simpa using hk0
      have b1 : (xk == 1) = false := by simpa using hk1
      have b2 : (xk == 2) = false := by simpa using hk2
      have b3 : (xk == 3) = false := by simpa using hk3
      have ea : actF (lone Fs M) xk xi xa = (-1, 0, lone Fs M) := by
        unfold actF
        rw [if_neg (by omega), if_neg hk2, if_neg hk3]
      clear hk0 hk1 hk2 hk3
      have C5 := act_is IS5.out GM.out (by omega) xk xi xa
      rw [ea] at C5
      go_wp2_with fail
      refine C5.mono ?_
      rintro e w6 ⟨rfl, S6, hIS, hF, hS⟩
      have IS6 := Lib.hid hIS
      have HS6 := Lib.hid (fun y hy => (by rcases hS y hy with h | h; exact HS.out y h; exact Nat.le_trans F5.out.size h) : ∀ y ∈ S6, W.heap.size ≤ y)
      have F6 := Lib.hid (F5.out.trans hF (fun y hy => .inr (HS.out y hy)))
      have M6 := Lib.hid (M5.out.next hF A5.out)
      have A6 := Lib.hid (A5.out.next hF hS)
      have BX6 := Lib.hid (BX5.out.next hF hS)
      have x0 := (cell_frA BX5.out hF 0).trans X05.out
      have x1 := (cell_frA BX5.out hF 1).trans X15.out
      have t0 := (cell_frA TX5.out hF 0).trans T0.out
      have t1 := (cell_frA TX5.out hF 1).trans T1.out
      have t2 := (cell_frA TX5.out hF 2).trans T2.out
      clear hIS hF hS C5
      clear ea
      have F7 := F6
      have IS7 := IS6
      have N7 := M6
      have AN7 := A6
      have BX7 := BX6
      have X07 := Lib.hid x0
      have X17 := Lib.hid x1
      have HS7 := HS6
      have GN := GM
      have C8 := lone_mark IS7.out GN.out (by omega) (N7.out.1)
      go_wp2_with fail
      refine C8.mono ?_
      rintro e w8 ⟨am, cm, rfl, hM8, hF⟩
      have F8 := Lib.hid (F7.out.trans hF (by simp))
      have F78 := Lib.hid hF
      have KP := Lib.hid (fun w' (g : Fr [] w8 w') => (⟨cell_fr' (cell_fr' X07.out hF) g, cell_fr' (cell_fr' X17.out hF) g⟩ : w'.cell? ⟨bx, 0, none⟩ = some (.slice f.ea f.en f.ec) ∧ w'.cell? ⟨bx, 1, none⟩ = some (.slice f.ta f.tn f.tc)))
      have D1 := Lib.hid (fun w' (g : Fr [] w8 w') => (by
        have := marksame_any am a f.en f.en cm c (M) (M) w' (by omega) (by omega) (hM8.fr g) ((N7.out.fr hF).fr g)
        rwa [decide_eq_true (rfl : (M) = (M))] at this : Calls Try.prog 61 #[.slice am f.en cm, .slice a f.en c] w' fun e w'' => e = .returned (.bool true) ∧ Fr [] w' w''))
      obtain ⟨ba, hba⟩ : ∃ b, accB f.en (M) = b := ⟨_, rfl⟩
      have D2 := Lib.hid (fun w' (g : Fr [] w8 w') => (by
        have := done_is ((IS7.out.fr hF).fr g) GN.out (by omega)
        rwa [lone_done, HF0.out, show accB f.nrm.en (M) = ba from hba] at this : Calls Try.prog 56 #[.pointer (some ⟨tb, 0, none⟩)] w' fun e w'' => e = .returned (.bool ba) ∧ Fr [] w' w''))
      have D3 := Lib.hid (fun w' (g : Fr [] w8 w') => (by
        have := acc_any f a f.en c (M) w' ((N7.out.fr hF).fr g) (by omega)
        rwa [hba] at this : Calls Try.prog 24 #[.agg #[.slice f.ea f.en f.ec, .slice f.ta f.tn f.tc], .slice a f.en c] w' fun e w'' => e = .returned (.bool ba) ∧ Fr [] w' w''))
      clear hF hM8 C8 hba
      go_wp2_with fail
      refine wp_region_held_drew (S := (fun w' => w'.cell? ⟨bx, 0, none⟩ = some (.slice f.ea f.en f.ec) ∧ w'.cell? ⟨bx, 1, none⟩ = some (.slice f.ta f.tn f.tc))) (by kernel_rfl) (KP.out _ ((Fr.refl [] w8).drew)) (fun hHeld => ?_)
      refine wpAnyH_take (i := 0) (v := ?_) rfl (by kernel_rfl) (by kernel_rfl) (by kernel_rfl) (fun _ _ _ h => h) (Or.inl ⟨rfl, ?_⟩) hHeld ?_
      rotate_left
      · (intro w hSw; (try dsimp only at hSw); go_simp; try (with_reducible rfl))
      simp only [List.getElem_toArray, List.getElem_cons_succ, List.getElem_cons_zero, Act.put, List.setIfInBounds_toArray, List.set_cons_zero, List.set_cons_succ]
      refine wpAnyH_take (i := 1) (v := ?_) rfl (by kernel_rfl) (by kernel_rfl) (by kernel_rfl) (fun _ _ _ h => h) (Or.inl ⟨rfl, ?_⟩) hHeld ?_
      rotate_left
      · (intro w hSw; (try dsimp only at hSw); go_simp; try (with_reducible rfl))
      simp only [List.getElem_toArray, List.getElem_cons_succ, List.getElem_cons_zero, Act.put, List.setIfInBounds_toArray, List.set_cons_zero, List.set_cons_succ]
      refine wpAnyH_take (i := 2) (v := ?_) rfl (by kernel_rfl) (by kernel_rfl) (by kernel_rfl) (fun _ _ _ h => h) (Or.inl ⟨rfl, ?_⟩) hHeld ?_
      rotate_left
      · (intro w hSw; (try dsimp only at hSw); go_simp; try (with_reducible rfl))
      simp only [List.getElem_toArray, List.getElem_cons_succ, List.getElem_cons_zero, Act.put, List.setIfInBounds_toArray, List.set_cons_zero, List.set_cons_succ]
      refine wpAnyH_take (i := 3) (v := ?_) rfl (by kernel_rfl) (by kernel_rfl) (by kernel_rfl) (fun _ _ _ h => h) (Or.inl ⟨rfl, ?_⟩) hHeld ?_
      rotate_left
      · (intro w hSw; (try dsimp only at hSw); go_simp; try (with_reducible rfl))
      simp only [List.getElem_toArray, List.getElem_cons_succ, List.getElem_cons_zero, Act.put, List.setIfInBounds_toArray, List.set_cons_zero, List.set_cons_succ]
      refine wpAnyH_take (i := 4) (v := ?_) rfl (by kernel_rfl) (by kernel_rfl) (by kernel_rfl) (fun _ _ _ h => h) (Or.inl ⟨rfl, ?_⟩) hHeld ?_
      rotate_left
      · (intro w hSw; (try dsimp only at hSw); go_simp; try (with_reducible rfl))
      simp only [List.getElem_toArray, List.getElem_cons_succ, List.getElem_cons_zero, Act.put, List.setIfInBounds_toArray, List.set_cons_zero, List.set_cons_succ]
      refine wpAnyH_ready (rs := [5]) (by kernel_rfl) (by simp) ?_
      refine AllReadyH.cons rfl (fun K hK => ?_) AllReadyH.nil
      simp only [List.getElem_toArray, List.getElem_cons_succ, List.getElem_cons_zero]
      go_simp
      go_wp2_with (first | (go_at_call 61; refine (D1.out _ ((Fr.refl [] w8).drew)).mono ?_; rintro e v1 ⟨rfl, hG1⟩))
      refine hK.out _ _ (by first | (exact KP.out _ (((Fr.refl [] w8).drew).trans hG1 (by simp))) | go_keep) (fun hHeld => ?_)
      clear hK K
      refine wpAnyH_take (i := 6) (v := ?_) rfl (by kernel_rfl) (by kernel_rfl) (by kernel_rfl) (fun _ _ _ h => h) (Or.inl ⟨rfl, ?_⟩) hHeld ?_
      rotate_left
      · (intro w hSw; (try dsimp only at hSw); go_simp; try (with_reducible rfl))
      simp only [List.getElem_toArray, List.getElem_cons_succ, List.getElem_cons_zero, Act.put, List.setIfInBounds_toArray, List.set_cons_zero, List.set_cons_succ]
      refine wpAnyH_take (i := 7) (v := ?_) rfl (by kernel_rfl) (by kernel_rfl) (by kernel_rfl) (fun _ _ _ h => h) (Or.inl ⟨rfl, ?_⟩) hHeld ?_
      rotate_left
      · (intro w hSw; (try dsimp only at hSw); go_simp; try (with_reducible rfl))
      simp only [List.getElem_toArray, List.getElem_cons_succ, List.getElem_cons_zero, Act.put, List.setIfInBounds_toArray, List.set_cons_zero, List.set_cons_succ]
      refine wpAnyH_take (i := 8) (v := ?_) rfl (by kernel_rfl) (by kernel_rfl) (by kernel_rfl) (fun _ _ _ h => h) (Or.inl ⟨rfl, ?_⟩) hHeld ?_
      rotate_left
      · (intro w hSw; (try dsimp only at hSw); go_simp; try (with_reducible rfl))
      simp only [List.getElem_toArray, List.getElem_cons_succ, List.getElem_cons_zero, Act.put, List.setIfInBounds_toArray, List.set_cons_zero, List.set_cons_succ]
      refine wpAnyH_take (i := 9) (v := ?_) rfl (by kernel_rfl) (by kernel_rfl) (by kernel_rfl) (fun _ _ _ h => h) (Or.inl ⟨rfl, ?_⟩) hHeld ?_
      rotate_left
      · (intro w hSw; (try dsimp only at hSw); go_simp; try (with_reducible rfl))
      simp only [List.getElem_toArray, List.getElem_cons_succ, List.getElem_cons_zero, Act.put, List.setIfInBounds_toArray, List.set_cons_zero, List.set_cons_succ]
      refine wpAnyH_take (i := 11) (v := ?_) rfl (by kernel_rfl) (by kernel_rfl) (by kernel_rfl) (fun _ _ _ h => h) (Or.inl ⟨rfl, ?_⟩) hHeld ?_
      rotate_left
      · (intro w hSw; (try dsimp only at hSw); go_simp; try (with_reducible rfl))
      simp only [List.getElem_toArray, List.getElem_cons_succ, List.getElem_cons_zero, Act.put, List.setIfInBounds_toArray, List.set_cons_zero, List.set_cons_succ]
      refine wpAnyH_take (i := 12) (v := ?_) rfl (by kernel_rfl) (by kernel_rfl) (by kernel_rfl) (fun _ _ _ h => h) (Or.inl ⟨rfl, ?_⟩) hHeld ?_
      rotate_left
      · (intro w hSw; (try dsimp only at hSw); go_simp; try (with_reducible rfl))
      simp only [List.getElem_toArray, List.getElem_cons_succ, List.getElem_cons_zero, Act.put, List.setIfInBounds_toArray, List.set_cons_zero, List.set_cons_succ]
      refine wpAnyH_ready (rs := [10]) (by kernel_rfl) (by simp) ?_
      refine AllReadyH.cons rfl (fun K hK => ?_) AllReadyH.nil
      simp only [List.getElem_toArray, List.getElem_cons_succ, List.getElem_cons_zero]
      go_simp
      go_wp2_with (first | (go_at_call 56; refine (D2.out _ (((Fr.refl [] w8).drew).trans hG1 (by simp))).mono ?_; rintro e v2 ⟨rfl, hG2⟩))
      refine hK.out _ _ (by first | (exact KP.out _ ((((Fr.refl [] w8).drew).trans hG1 (by simp)).trans hG2 (by simp))) | go_keep) (fun hHeld => ?_)
      clear hK K
      refine wpAnyH_ready (rs := [13]) (by kernel_rfl) (by simp) ?_
      refine AllReadyH.cons rfl (fun K hK => ?_) AllReadyH.nil
      simp only [List.getElem_toArray, List.getElem_cons_succ, List.getElem_cons_zero]
      go_simp
      go_wp2_with (first | (go_at_call 24; refine (D3.out _ ((((Fr.refl [] w8).drew).trans hG1 (by simp)).trans hG2 (by simp))).mono ?_; rintro e v3 ⟨rfl, hG3⟩))
      refine hK.out _ _ (by first | (exact KP.out _ (((((Fr.refl [] w8).drew).trans hG1 (by simp)).trans hG2 (by simp)).trans hG3 (by simp))) | go_keep) (fun hHeld => ?_)
      clear hK K
      refine wpAnyH_take (i := 14) (v := ?_) rfl (by kernel_rfl) (by kernel_rfl) (by kernel_rfl) (fun _ _ _ h => h) (Or.inl ⟨rfl, ?_⟩) hHeld ?_
      rotate_left
      · (intro w hSw; (try dsimp only at hSw); go_simp; try (with_reducible rfl))
      simp only [List.getElem_toArray, List.getElem_cons_succ, List.getElem_cons_zero, Act.put, List.setIfInBounds_toArray, List.set_cons_zero, List.set_cons_succ]
      refine wpAnyH_take (i := 15) (v := ?_) rfl (by kernel_rfl) (by kernel_rfl) (by kernel_rfl) (fun _ _ _ h => h) (Or.inl ⟨rfl, ?_⟩) hHeld ?_
      rotate_left
      · (intro w hSw; (try dsimp only at hSw); go_simp; try (with_reducible rfl))
      simp only [List.getElem_toArray, List.getElem_cons_succ, List.getElem_cons_zero, Act.put, List.setIfInBounds_toArray, List.set_cons_zero, List.set_cons_succ]
      refine wpAnyH_done (by kernel_rfl) ?_ _
      have FZ := Lib.hid (F78.out.trans (((((Fr.refl [] w8).drew).trans hG1 (by simp)).trans hG2 (by simp)).trans hG3 (by simp)) (by simp))
      clear hG1 hG2 hG3 KP D1 D2 D3 hHeld
      go_wp2_with fail
      go_roundg (N - (j + 1))
      case measure => omega
      case rel => exact ⟨j + 1, S6, _, _, _, rfl, by omega, rfl, rfl, IS7.out.fr FZ.out, GN.out, N7.out.fr FZ.out, AN7.out.fr FZ.out, BX7.out.fr FZ.out, cell_fr' X07.out FZ.out, cell_fr' X17.out FZ.out, HS7.out, F7.out.trans FZ.out (by simp)⟩
    · have hjN : j = N := by omega
      by_cases h1 : j < len1
      · have d1 : decide (j < len1) = true := decide_eq_true h1
        have d2 : decide ((j : Int) < 80) = false := decide_eq_false (by have := HN.out; omega)
        clear hjn hjN h1
        go_wp2_with fail
        go_ret
        exact ⟨rfl, F.out.nil_below⟩
      · have d1 : decide (j < len1) = false := decide_eq_false h1
        clear hjn hjN h1
        go_wp2_with fail
        go_ret
        exact ⟨rfl, F.out.nil_below⟩
end Go.Proofs.Ytclkahggfdnpgaa


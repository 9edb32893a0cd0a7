/- An event that no condition and no milestone leads to is enabled just if it is in: the law. -/
import Derived.Test.YtclkahggfdnpgaaTicksLaw
import Derived.Deep.RegionHeldLaw
set_option linter.unusedVariables false
set_option linter.unusedSimpArgs false
namespace Go.Proofs.Ytclkahggfdnpgaa
open Go.RowKit
theorem bound_succ (T : List TieD) (t : Nat) (k : Int) (h : t < T.length) : boundB (T.take (t + 1)) k = (boundB (T.take t) k || (decide ((T.getD t default).dst = k) && (decide ((T.getD t default).kind = 1) || decide ((T.getD t default).kind = 5)))) := by
  unfold boundB
  rw [take_succD T t h, List.any_append]
  simp
set_option maxRecDepth 100000 in
set_option maxHeartbeats 4000000 in
theorem markFree_walk (f : FlatD) (a1 : Option Addr) (len1 cap1 : Nat) (L : List Nat) (W : World) (hf : FlatIn W f) (hL : StepsAt W a1 len1 L) :
    Calls Try.prog 8 #[f.val, .slice a1 len1 cap1] W fun e w' => e = .returned (.bool true) ∧ Below W.heap.size W w' := by
  obtain ⟨ea, en, ec, ta, tn, tc, E, T⟩ := f
  have hfe := Lib.hid hf.evs.1
  have hr := (Fr.refl [] W).alloc (.cells #[.slice ea en ec, .slice ta tn tc] 25)
  have HR := Lib.hid hr
  have rb := Row.new W [.slice ea en ec, .slice ta tn tc] 25
  have RB := Lib.hid rb
  have HF := Lib.hid hf
  have HL := Lib.hid hL
  clear hf hL hr rb
  simp only [FlatD.val]
  go_enter Try.func8, Try.ntmps8
  go_wp2_with fail
  refine (awake_any _).mono ?_
  rintro e w1 ⟨rfl, hF1⟩
  have F1 := Lib.hid (HR.out.trans hF1 (by simp))
  have x0 : w1.cell? ⟨W.heap.size, 0, none⟩ = some (.slice ea en ec) := (RB.out.fr hF1 (by simp)).cell 0
  have x1 : w1.cell? ⟨W.heap.size, 1, none⟩ = some (.slice ta tn tc) := (RB.out.fr hF1 (by simp)).cell 1
  clear hF1
  have C2 := large_any (⟨ea, en, ec, ta, tn, tc, E, T⟩ : FlatD) w1
  simp only [FlatD.val] at C2
  go_wp2_with fail
  refine C2.mono ?_
  rintro e w2 ⟨rfl, hF2⟩
  have F2 := Lib.hid (F1.out.trans hF2 (by simp))
  have y0 := cell_fr x0 hF2
  have y1 := cell_fr x1 hF2
  clear hF2 C2 x0 x1
  by_cases hl : largeB (⟨ea, en, ec, ta, tn, tc, E, T⟩ : FlatD) = true
  · rw [hl]
    go_wp2_with fail
    go_ret
    exact ⟨rfl, F2.out.nil_below⟩
  have hl : largeB (⟨ea, en, ec, ta, tn, tc, E, T⟩ : FlatD) = false := by simpa using hl
  have FA := Lib.hid (large_flat HF.out hl)
  have hen := FA.out.few
  have C3 := run_any (⟨ea, en, ec, ta, tn, tc, E, T⟩ : FlatD) a1 len1 cap1 L w2 (FA.out.fr F2.out) (HL.out.fr F2.out)
  have hfit := Lib.hid (runM_fits (⟨ea, en, ec, ta, tn, tc, E, T⟩ : FlatD) hfe.out (L.take 60))
  generalize runM (⟨ea, en, ec, ta, tn, tc, E, T⟩ : FlatD) (L.take 60) = M at C3 hfit
  rw [hl]
  clear hl
  simp only [FlatD.val] at C3
  go_wp2_with fail
  refine C3.mono ?_
  rintro e w3 ⟨am, cm, rfl, hM3, hF3⟩
  have F3 := Lib.hid (F2.out.trans hF3 (by simp))
  have M3 := Lib.hid hM3
  have x0 := cell_fr y0 hF3
  have x1 := cell_fr y1 hF3
  clear hF3 C3 y0 y1 hM3
  have hlm := Lib.hid (fits_len hfit.out)
  go_wp2_with fail
  go_loopg [19] en (fun k i wr => ∃ (j : Nat), k = en - j ∧ j ≤ en ∧ i = .int .i64 j ∧ Fr [] w3 wr)
  case atStart => exact ⟨0, rfl, by omega, rfl, Fr.refl _ _⟩
  case round =>
    obtain ⟨j, rfl, hj, rfl, hF⟩ := hrel
    obtain ⟨wo, rfl⟩ : ∃ wo, wo = wr := ⟨_, rfl⟩
    have F4 := Lib.hid hF
    have y0 := cell_fr x0 hF
    have y1 := cell_fr x1 hF
    clear hF
    by_cases hjn : j < en
    · have hdn : decide (j < en) = true := decide_eq_true hjn
      go_wp2_with fail
      go_loopg [7, 25] tn (fun k b i wr => ∃ (t : Nat), k = tn - t ∧ t ≤ tn ∧ i = .int .i64 t ∧ b = .bool (boundB (T.take t) j) ∧ Fr [] wo wr)
      case atStart => exact ⟨0, rfl, by omega, rfl, rfl, Fr.refl _ _⟩
      case round =>
        obtain ⟨t, rfl, ht, rfl, rfl, hFi⟩ := hrel
        have FI := Lib.hid hFi
        have z0 := cell_fr y0 hFi
        have z1 := cell_fr y1 hFi
        clear hFi
        have hfe2 := FA.out.few2
        by_cases htn : t < tn
        · have hdt : decide (t < tn) = true := decide_eq_true htn
          obtain ⟨b1, o1, rfl, hb1, hc1⟩ := (((FA.out.fr F3.out).fr F4.out).fr FI.out).ties.2.at_ (by show 0 < tn; omega)
          have hcx := hc1 t htn
          have hsu := bound_succ T t j (by rw [FA.out.ties.1]; exact htn)
          generalize T.getD t default = x at hcx hsu
          have hc' : ∀ k' v, ([.int .i64 x.kind, .int .i64 x.src, .int .i64 x.dst, .int .i64 x.time] : List Value)[k']? = some v → wr.cell? ⟨b1, o1 + t * 4 + k', none⟩ = some v := hcx
          have HC := Lib.hid hc'
          have HSU := Lib.hid hsu
          clear hcx hc' hc1 hsu
          go_wp2_with (first | ((with_reducible refine wpList_load_at rfl 57 (.tmp 27) rfl agg57 4 size57 b1 (o1 + t * 4) [.int .i64 x.kind, .int .i64 x.src, .int .i64 x.dst, .int .i64 x.time] rfl HC.out ?_ ?_); exact rfl) | ((with_reducible refine wpList_var_agg rfl rfl 57 (.tmp 9) (.tmp 28) rfl rfl 4 zero57 [.int .i64 x.kind, .int .i64 x.src, .int .i64 x.dst, .int .i64 x.time] rfl ?_ ?_ ?_ ?_); (intro u hu; simp at hu; rcases hu with rfl | rfl | rfl | rfl <;> rfl); exact rfl; exact rfl))
          intro w6 hr6 hs6 hf6
          have FI6 := Lib.hid (FI.out.trans hf6 (by simp))
          have t0 : w6.cell? ⟨wr.heap.size, 0, none⟩ = some (.int .i64 x.kind) := hr6.cell 0
          have t2 : w6.cell? ⟨wr.heap.size, 2, none⟩ = some (.int .i64 x.dst) := hr6.cell 2
          clear hr6 hs6 hf6 z0 z1
          have key : ∀ bb : Bool, boundB (T.take (t + 1)) j = bb → Fr [] wo w6 → (∃ t', tn - (t + 1) = tn - t' ∧ t' ≤ tn ∧ (Value.int .i64 ((t : Int) + 1)) = .int .i64 (t' : Nat) ∧ (Value.bool bb) = .bool (boundB (T.take t') j) ∧ Fr [] wo w6) := fun bb h1 h2 => ⟨t + 1, rfl, by omega, rfl, by rw [h1], h2⟩
          have KEY := Lib.hid key
          clear key
          by_cases hacc : boundB (T.take t) j = true
          · rw [hacc] at HSU ⊢
            rw [Bool.true_or] at HSU
            clear hacc
            go_wp2_with fail
            go_roundg (tn - (t + 1))
            case measure => omega
            case rel => exact KEY.out _ HSU.out FI6.out
          have hacc : boundB (T.take t) j = false := by simpa using hacc
          rw [hacc] at HSU ⊢
          rw [Bool.false_or] at HSU
          clear hacc
          by_cases hd : x.dst = j
          · have e1 : (x.dst == (j : Int)) = true := by simpa using hd
            have e1' : decide (x.dst = (j : Int)) = true := decide_eq_true hd
            rw [e1', Bool.true_and] at HSU
            by_cases hk1 : x.kind = 1
            · have e2 : (x.kind == 1) = true := by simpa using hk1
              have e2' : decide (x.kind = 1) = true := decide_eq_true hk1
              rw [e2', Bool.true_or] at HSU
              clear hd hk1 e1' e2'
              go_wp2_with fail
              go_roundg (tn - (t + 1))
              case measure => omega
              case rel => exact KEY.out _ HSU.out FI6.out
            · have e2 : (x.kind == 1) = false := by simpa using hk1
              have e2' : decide (x.kind = 1) = false := decide_eq_false hk1
              rw [e2', Bool.false_or] at HSU
              by_cases hk5 : x.kind = 5
              · have e3 : (x.kind == 5) = true := by simpa using hk5
                have e3' : decide (x.kind = 5) = true := decide_eq_true hk5
                rw [e3'] at HSU
                clear hd hk1 hk5 e1' e2' e3'
                go_wp2_with fail
                go_roundg (tn - (t + 1))
                case measure => omega
                case rel => exact KEY.out _ HSU.out FI6.out
              · have e3 : (x.kind == 5) = false := by simpa using hk5
                have e3' : decide (x.kind = 5) = false := decide_eq_false hk5
                rw [e3'] at HSU
                clear hd hk1 hk5 e1' e2' e3'
                go_wp2_with fail
                go_roundg (tn - (t + 1))
                case measure => omega
                case rel => exact KEY.out _ HSU.out FI6.out
          · have e1 : (x.dst == (j : Int)) = false := by simpa using hd
            have e1' : decide (x.dst = (j : Int)) = false := decide_eq_false hd
            rw [e1', Bool.false_and] at HSU
            clear hd e1'
            go_wp2_with fail
            go_roundg (tn - (t + 1))
            case measure => omega
            case rel => exact KEY.out _ HSU.out FI6.out
        · have hdt : decide (t < tn) = false := decide_eq_false htn
          obtain rfl : tn = t := by omega
          have htk : boundB (T.take tn) j = boundB T j := by rw [List.take_of_length_le (Nat.le_of_eq FA.out.ties.1)]
          rw [htk]
          have FF := Lib.hid (F4.out.trans FI.out (by simp))
          have MW := Lib.hid (M3.out.fr FF.out)
          have FW := Lib.hid ((FA.out.fr F3.out).fr FF.out)
          obtain ⟨gm, om, rfl, hgm, hcm⟩ := MW.out.2.at_ (by omega)
          have q0 : wr.cell? ⟨gm, om + j * 3, none⟩ = some (.bool (M.getD j default).inn) := hcm j hjn 0 _ rfl
          clear hcm
          have KP : ∀ w', Fr [] wr.drew w' → (w'.cell? ⟨W.heap.size, 0, none⟩ = some (.slice ea en ec) ∧ w'.cell? ⟨W.heap.size, 1, none⟩ = some (.slice ta tn tc) ∧ w'.cell? ⟨gm, om + j * 3, none⟩ = some (.bool (M.getD j default).inn)) := fun w' hF => ⟨cell_fr z0 (((Fr.refl [] wr).drew).trans hF (by simp)), cell_fr z1 (((Fr.refl [] wr).drew).trans hF (by simp)), cell_fr q0 (((Fr.refl [] wr).drew).trans hF (by simp))⟩
          have KP := Lib.hid KP
          have E1 := Lib.hid fun (w' : World) (hF : Fr [] wr.drew w') => enab_any (⟨ea, en, ec, ta, tn, tc, E, T⟩ : FlatD) (some ⟨gm, om, none⟩) en cm M j w' (FW.out.fr (((Fr.refl [] wr).drew).trans hF (by simp))) (MW.out.fr (((Fr.refl [] wr).drew).trans hF (by simp))) hen
          have hfr := enab_free (f := (⟨ea, en, ec, ta, tn, tc, E, T⟩ : FlatD)) (k := j) hfit.out (by rw [hlm.out]; exact hjn)
          have hin := enab_in (f := (⟨ea, en, ec, ta, tn, tc, E, T⟩ : FlatD)) (M := M) (k := j)
          simp only [FlatD.val] at E1
          generalize enabB (⟨ea, en, ec, ta, tn, tc, E, T⟩ : FlatD) M j = en' at E1 hfr hin
          generalize (M.getD j default).inn = x at KP q0 hfr hin
          generalize boundB T j = B at hfr ⊢
          clear htk
          cases B
          · obtain rfl := hfr rfl
            clear hfr hin
            cases en'
            · 
              go_wp2_with fail
              refine wp_region_held_drew (S := (fun w' => w'.cell? ⟨W.heap.size, 0, none⟩ = some (.slice ea en ec) ∧ w'.cell? ⟨W.heap.size, 1, none⟩ = some (.slice ta tn tc) ∧ w'.cell? ⟨gm, om + j * 3, none⟩ = some (.bool false))) (by kernel_rfl) (by go_keep) (fun hHeld => ?_)
              refine wpAnyH_take (i := 0) (v := ?_) rfl (by kernel_rfl) (by kernel_rfl) (by kernel_rfl) (fun _ _ _ h => h) (Or.inl ⟨rfl, ?_⟩) hHeld ?_
              rotate_left
              · (intro w hSw; (try dsimp only at hSw); go_simp; try (with_reducible rfl))
              simp only [List.getElem_toArray, List.getElem_cons_succ, List.getElem_cons_zero, Act.put, List.setIfInBounds_toArray, List.set_cons_zero, List.set_cons_succ]
              refine wpAnyH_take (i := 1) (v := ?_) rfl (by kernel_rfl) (by kernel_rfl) (by kernel_rfl) (fun _ _ _ h => h) (Or.inl ⟨rfl, ?_⟩) hHeld ?_
              rotate_left
              · (intro w hSw; (try dsimp only at hSw); go_simp; try (with_reducible rfl))
              simp only [List.getElem_toArray, List.getElem_cons_succ, List.getElem_cons_zero, Act.put, List.setIfInBounds_toArray, List.set_cons_zero, List.set_cons_succ]
              refine wpAnyH_take (i := 2) (v := ?_) rfl (by kernel_rfl) (by kernel_rfl) (by kernel_rfl) (fun _ _ _ h => h) (Or.inl ⟨rfl, ?_⟩) hHeld ?_
              rotate_left
              · (intro w hSw; (try dsimp only at hSw); go_simp; try (with_reducible rfl))
              simp only [List.getElem_toArray, List.getElem_cons_succ, List.getElem_cons_zero, Act.put, List.setIfInBounds_toArray, List.set_cons_zero, List.set_cons_succ]
              refine wpAnyH_take (i := 3) (v := ?_) rfl (by kernel_rfl) (by kernel_rfl) (by kernel_rfl) (fun _ _ _ h => h) (Or.inl ⟨rfl, ?_⟩) hHeld ?_
              rotate_left
              · (intro w hSw; (try dsimp only at hSw); go_simp; try (with_reducible rfl))
              simp only [List.getElem_toArray, List.getElem_cons_succ, List.getElem_cons_zero, Act.put, List.setIfInBounds_toArray, List.set_cons_zero, List.set_cons_succ]
              refine wpAnyH_take (i := 4) (v := ?_) rfl (by kernel_rfl) (by kernel_rfl) (by kernel_rfl) (fun _ _ _ h => h) (Or.inl ⟨rfl, ?_⟩) hHeld ?_
              rotate_left
              · (intro w hSw; (try dsimp only at hSw); go_simp; try (with_reducible rfl))
              simp only [List.getElem_toArray, List.getElem_cons_succ, List.getElem_cons_zero, Act.put, List.setIfInBounds_toArray, List.set_cons_zero, List.set_cons_succ]
              refine wpAnyH_take (i := 5) (v := ?_) rfl (by kernel_rfl) (by kernel_rfl) (by kernel_rfl) (fun _ _ _ h => h) (Or.inl ⟨rfl, ?_⟩) hHeld ?_
              rotate_left
              · (intro w hSw; (try dsimp only at hSw); go_simp; try (with_reducible rfl))
              simp only [List.getElem_toArray, List.getElem_cons_succ, List.getElem_cons_zero, Act.put, List.setIfInBounds_toArray, List.set_cons_zero, List.set_cons_succ]
              refine wpAnyH_take (i := 7) (v := ?_) rfl (by kernel_rfl) (by kernel_rfl) (by kernel_rfl) (fun _ _ _ h => h) (Or.inl ⟨rfl, ?_⟩) hHeld ?_
              rotate_left
              · (intro w hSw; (try dsimp only at hSw); go_simp; try (with_reducible rfl))
              simp only [List.getElem_toArray, List.getElem_cons_succ, List.getElem_cons_zero, Act.put, List.setIfInBounds_toArray, List.set_cons_zero, List.set_cons_succ]
              refine wpAnyH_take (i := 8) (v := ?_) rfl (by kernel_rfl) (by kernel_rfl) (by kernel_rfl) (fun _ _ _ h => h) (Or.inl ⟨rfl, ?_⟩) hHeld ?_
              rotate_left
              · (intro w hSw; (try dsimp only at hSw); go_simp; try (with_reducible rfl))
              simp only [List.getElem_toArray, List.getElem_cons_succ, List.getElem_cons_zero, Act.put, List.setIfInBounds_toArray, List.set_cons_zero, List.set_cons_succ]
              refine wpAnyH_take (i := 9) (v := ?_) rfl (by kernel_rfl) (by kernel_rfl) (by kernel_rfl) (fun _ _ _ h => h) (Or.inl ⟨rfl, ?_⟩) hHeld ?_
              rotate_left
              · (intro w hSw; (try dsimp only at hSw); go_simp; try (with_reducible rfl))
              simp only [List.getElem_toArray, List.getElem_cons_succ, List.getElem_cons_zero, Act.put, List.setIfInBounds_toArray, List.set_cons_zero, List.set_cons_succ]
              refine wpAnyH_take (i := 10) (v := ?_) rfl (by kernel_rfl) (by kernel_rfl) (by kernel_rfl) (fun _ _ _ h => h) (Or.inl ⟨rfl, ?_⟩) hHeld ?_
              rotate_left
              · (intro w hSw; (try dsimp only at hSw); go_simp; try (with_reducible rfl))
              simp only [List.getElem_toArray, List.getElem_cons_succ, List.getElem_cons_zero, Act.put, List.setIfInBounds_toArray, List.set_cons_zero, List.set_cons_succ]
              refine wpAnyH_take (i := 11) (v := ?_) rfl (by kernel_rfl) (by kernel_rfl) (by kernel_rfl) (fun _ _ _ h => h) (Or.inl ⟨rfl, ?_⟩) hHeld ?_
              rotate_left
              · (intro w hSw; (try dsimp only at hSw); go_simp; try (with_reducible rfl))
              simp only [List.getElem_toArray, List.getElem_cons_succ, List.getElem_cons_zero, Act.put, List.setIfInBounds_toArray, List.set_cons_zero, List.set_cons_succ]
              refine wpAnyH_ready (rs := [6]) (by kernel_rfl) (by simp) ?_
              refine AllReadyH.cons rfl (fun K hK => ?_) AllReadyH.nil
              simp only [List.getElem_toArray, List.getElem_cons_succ, List.getElem_cons_zero]
              go_simp
              go_wp2_with (go_at_call 19; refine (E1.out _ (Fr.refl _ _)).mono ?_; rintro e v3 ⟨rfl, hF3⟩)
              refine hK.out _ _ (by first | (exact KP.out _ hF3) | go_keep) (fun hHeld => ?_)
              clear hK K
              refine wpAnyH_take (i := 12) (v := ?_) rfl (by kernel_rfl) (by kernel_rfl) (by kernel_rfl) (fun _ _ _ h => h) (Or.inl ⟨rfl, ?_⟩) hHeld ?_
              rotate_left
              · (intro w hSw; (try dsimp only at hSw); go_simp; try (with_reducible rfl))
              simp only [List.getElem_toArray, List.getElem_cons_succ, List.getElem_cons_zero, Act.put, List.setIfInBounds_toArray, List.set_cons_zero, List.set_cons_succ]
              refine wpAnyH_take (i := 13) (v := ?_) rfl (by kernel_rfl) (by kernel_rfl) (by kernel_rfl) (fun _ _ _ h => h) (Or.inl ⟨rfl, ?_⟩) hHeld ?_
              rotate_left
              · (intro w hSw; (try dsimp only at hSw); go_simp; try (with_reducible rfl))
              simp only [List.getElem_toArray, List.getElem_cons_succ, List.getElem_cons_zero, Act.put, List.setIfInBounds_toArray, List.set_cons_zero, List.set_cons_succ]
              refine wpAnyH_take (i := 14) (v := ?_) rfl (by kernel_rfl) (by kernel_rfl) (by kernel_rfl) (fun _ _ _ h => h) (Or.inl ⟨rfl, ?_⟩) hHeld ?_
              rotate_left
              · (intro w hSw; (try dsimp only at hSw); go_simp; try (with_reducible rfl))
              simp only [List.getElem_toArray, List.getElem_cons_succ, List.getElem_cons_zero, Act.put, List.setIfInBounds_toArray, List.set_cons_zero, List.set_cons_succ]
              refine wpAnyH_take (i := 15) (v := ?_) rfl (by kernel_rfl) (by kernel_rfl) (by kernel_rfl) (fun _ _ _ h => h) (Or.inl ⟨rfl, ?_⟩) hHeld ?_
              rotate_left
              · (intro w hSw; (try dsimp only at hSw); go_simp; try (with_reducible rfl))
              simp only [List.getElem_toArray, List.getElem_cons_succ, List.getElem_cons_zero, Act.put, List.setIfInBounds_toArray, List.set_cons_zero, List.set_cons_succ]
              refine wpAnyH_take (i := 16) (v := ?_) rfl (by kernel_rfl) (by kernel_rfl) (by kernel_rfl) (fun _ _ _ h => h) (Or.inl ⟨rfl, ?_⟩) hHeld ?_
              rotate_left
              · (intro w hSw; (try dsimp only at hSw); go_simp; try (with_reducible rfl))
              simp only [List.getElem_toArray, List.getElem_cons_succ, List.getElem_cons_zero, Act.put, List.setIfInBounds_toArray, List.set_cons_zero, List.set_cons_succ]
              refine wpAnyH_take (i := 17) (v := ?_) rfl (by kernel_rfl) (by kernel_rfl) (by kernel_rfl) (fun _ _ _ h => h) (Or.inl ⟨rfl, ?_⟩) hHeld ?_
              rotate_left
              · (intro w hSw; (try dsimp only at hSw); go_simp; try (with_reducible rfl))
              simp only [List.getElem_toArray, List.getElem_cons_succ, List.getElem_cons_zero, Act.put, List.setIfInBounds_toArray, List.set_cons_zero, List.set_cons_succ]
              refine wpAnyH_ready (rs := [18]) (by kernel_rfl) (by simp) ?_
              refine AllReadyH.cons rfl (fun K hK => ?_) AllReadyH.nil
              simp only [List.getElem_toArray, List.getElem_cons_succ, List.getElem_cons_zero]
              go_simp
              go_wp2_with (go_at_call 19; refine (E1.out _ hF3).mono ?_; rintro e v4 ⟨rfl, hF4⟩)
              refine hK.out _ _ (by first | (exact KP.out _ (hF3.trans hF4 (by simp))) | go_keep) (fun hHeld => ?_)
              clear hK K
              refine wpAnyH_take (i := 19) (v := ?_) rfl (by kernel_rfl) (by kernel_rfl) (by kernel_rfl) (fun _ _ _ h => h) (Or.inl ⟨rfl, ?_⟩) hHeld ?_
              rotate_left
              · (intro w hSw; (try dsimp only at hSw); go_simp; try (with_reducible rfl))
              simp only [List.getElem_toArray, List.getElem_cons_succ, List.getElem_cons_zero, Act.put, List.setIfInBounds_toArray, List.set_cons_zero, List.set_cons_succ]
              refine wpAnyH_take (i := 20) (v := undef) rfl (by kernel_rfl) (by kernel_rfl) (by kernel_rfl) (fun _ _ _ h => h) (Or.inr ⟨rfl, rfl⟩) hHeld ?_
              simp only [List.getElem_toArray, List.getElem_cons_succ, List.getElem_cons_zero, Act.put, List.setIfInBounds_toArray, List.set_cons_zero, List.set_cons_succ]
              refine wpAnyH_take (i := 21) (v := undef) rfl (by kernel_rfl) (by kernel_rfl) (by kernel_rfl) (fun _ _ _ h => h) (Or.inr ⟨rfl, rfl⟩) hHeld ?_
              simp only [List.getElem_toArray, List.getElem_cons_succ, List.getElem_cons_zero, Act.put, List.setIfInBounds_toArray, List.set_cons_zero, List.set_cons_succ]
              refine wpAnyH_take (i := 22) (v := undef) rfl (by kernel_rfl) (by kernel_rfl) (by kernel_rfl) (fun _ _ _ h => h) (Or.inr ⟨rfl, rfl⟩) hHeld ?_
              simp only [List.getElem_toArray, List.getElem_cons_succ, List.getElem_cons_zero, Act.put, List.setIfInBounds_toArray, List.set_cons_zero, List.set_cons_succ]
              refine wpAnyH_take (i := 23) (v := undef) rfl (by kernel_rfl) (by kernel_rfl) (by kernel_rfl) (fun _ _ _ h => h) (Or.inr ⟨rfl, rfl⟩) hHeld ?_
              simp only [List.getElem_toArray, List.getElem_cons_succ, List.getElem_cons_zero, Act.put, List.setIfInBounds_toArray, List.set_cons_zero, List.set_cons_succ]
              refine wpAnyH_take (i := 24) (v := undef) rfl (by kernel_rfl) (by kernel_rfl) (by kernel_rfl) (fun _ _ _ h => h) (Or.inr ⟨rfl, rfl⟩) hHeld ?_
              simp only [List.getElem_toArray, List.getElem_cons_succ, List.getElem_cons_zero, Act.put, List.setIfInBounds_toArray, List.set_cons_zero, List.set_cons_succ]
              refine wpAnyH_take (i := 25) (v := undef) rfl (by kernel_rfl) (by kernel_rfl) (by kernel_rfl) (fun _ _ _ h => h) (Or.inr ⟨rfl, rfl⟩) hHeld ?_
              simp only [List.getElem_toArray, List.getElem_cons_succ, List.getElem_cons_zero, Act.put, List.setIfInBounds_toArray, List.set_cons_zero, List.set_cons_succ]
              refine wpAnyH_take (i := 26) (v := ?_) rfl (by kernel_rfl) (by kernel_rfl) (by kernel_rfl) (fun _ _ _ h => h) (Or.inl ⟨rfl, ?_⟩) hHeld ?_
              rotate_left
              · (intro w hSw; (try dsimp only at hSw); go_simp; try (with_reducible rfl))
              simp only [List.getElem_toArray, List.getElem_cons_succ, List.getElem_cons_zero, Act.put, List.setIfInBounds_toArray, List.set_cons_zero, List.set_cons_succ]
              refine wpAnyH_take (i := 27) (v := ?_) rfl (by kernel_rfl) (by kernel_rfl) (by kernel_rfl) (fun _ _ _ h => h) (Or.inl ⟨rfl, ?_⟩) hHeld ?_
              rotate_left
              · (intro w hSw; (try dsimp only at hSw); go_simp; try (with_reducible rfl))
              simp only [List.getElem_toArray, List.getElem_cons_succ, List.getElem_cons_zero, Act.put, List.setIfInBounds_toArray, List.set_cons_zero, List.set_cons_succ]
              refine wpAnyH_done (by kernel_rfl) ?_ _
              have F9 := Lib.hid ((F4.out.trans FI.out (by simp)).trans (((Fr.refl [] wr).drew).trans (hF3.trans hF4 (by simp)) (by simp)) (by simp))
              clear hF3 hF4
              go_wp2_with fail
              go_roundg (en - (j + 1))
              case measure => omega
              case rel => exact ⟨j + 1, rfl, by omega, rfl, F9.out⟩
            · 
              go_wp2_with fail
              go_region_held_law (fun w' => w'.cell? ⟨W.heap.size, 0, none⟩ = some (.slice ea en ec) ∧ w'.cell? ⟨W.heap.size, 1, none⟩ = some (.slice ta tn tc) ∧ w'.cell? ⟨gm, om + j * 3, none⟩ = some (.bool true)) (first | exact KP.out _ (hF3.trans hF4 (by simp)) | exact KP.out _ hF3 | go_keep) (first | (go_at_call 19; refine (E1.out _ hF3).mono ?_; rintro e v4 ⟨rfl, hF4⟩) | (go_at_call 19; refine (E1.out _ (Fr.refl _ _)).mono ?_; rintro e v3 ⟨rfl, hF3⟩))
              have F9 := Lib.hid ((F4.out.trans FI.out (by simp)).trans (((Fr.refl [] wr).drew).trans (hF3.trans hF4 (by simp)) (by simp)) (by simp))
              clear hF3 hF4
              go_wp2_with fail
              go_roundg (en - (j + 1))
              case measure => omega
              case rel => exact ⟨j + 1, rfl, by omega, rfl, F9.out⟩
          · clear hfr
            cases en'
            · clear hin
              go_wp2_with fail
              refine wp_region_held_drew (S := (fun w' => w'.cell? ⟨W.heap.size, 0, none⟩ = some (.slice ea en ec) ∧ w'.cell? ⟨W.heap.size, 1, none⟩ = some (.slice ta tn tc) ∧ w'.cell? ⟨gm, om + j * 3, none⟩ = some (.bool x))) (by kernel_rfl) (by go_keep) (fun hHeld => ?_)
              refine wpAnyH_take (i := 0) (v := ?_) rfl (by kernel_rfl) (by kernel_rfl) (by kernel_rfl) (fun _ _ _ h => h) (Or.inl ⟨rfl, ?_⟩) hHeld ?_
              rotate_left
              · (intro w hSw; (try dsimp only at hSw); go_simp; try (with_reducible rfl))
              simp only [List.getElem_toArray, List.getElem_cons_succ, List.getElem_cons_zero, Act.put, List.setIfInBounds_toArray, List.set_cons_zero, List.set_cons_succ]
              refine wpAnyH_take (i := 1) (v := ?_) rfl (by kernel_rfl) (by kernel_rfl) (by kernel_rfl) (fun _ _ _ h => h) (Or.inl ⟨rfl, ?_⟩) hHeld ?_
              rotate_left
              · (intro w hSw; (try dsimp only at hSw); go_simp; try (with_reducible rfl))
              simp only [List.getElem_toArray, List.getElem_cons_succ, List.getElem_cons_zero, Act.put, List.setIfInBounds_toArray, List.set_cons_zero, List.set_cons_succ]
              refine wpAnyH_take (i := 2) (v := ?_) rfl (by kernel_rfl) (by kernel_rfl) (by kernel_rfl) (fun _ _ _ h => h) (Or.inl ⟨rfl, ?_⟩) hHeld ?_
              rotate_left
              · (intro w hSw; (try dsimp only at hSw); go_simp; try (with_reducible rfl))
              simp only [List.getElem_toArray, List.getElem_cons_succ, List.getElem_cons_zero, Act.put, List.setIfInBounds_toArray, List.set_cons_zero, List.set_cons_succ]
              refine wpAnyH_take (i := 3) (v := undef) rfl (by kernel_rfl) (by kernel_rfl) (by kernel_rfl) (fun _ _ _ h => h) (Or.inr ⟨rfl, rfl⟩) hHeld ?_
              simp only [List.getElem_toArray, List.getElem_cons_succ, List.getElem_cons_zero, Act.put, List.setIfInBounds_toArray, List.set_cons_zero, List.set_cons_succ]
              refine wpAnyH_take (i := 4) (v := undef) rfl (by kernel_rfl) (by kernel_rfl) (by kernel_rfl) (fun _ _ _ h => h) (Or.inr ⟨rfl, rfl⟩) hHeld ?_
              simp only [List.getElem_toArray, List.getElem_cons_succ, List.getElem_cons_zero, Act.put, List.setIfInBounds_toArray, List.set_cons_zero, List.set_cons_succ]
              refine wpAnyH_take (i := 5) (v := undef) rfl (by kernel_rfl) (by kernel_rfl) (by kernel_rfl) (fun _ _ _ h => h) (Or.inr ⟨rfl, rfl⟩) hHeld ?_
              simp only [List.getElem_toArray, List.getElem_cons_succ, List.getElem_cons_zero, Act.put, List.setIfInBounds_toArray, List.set_cons_zero, List.set_cons_succ]
              refine wpAnyH_take (i := 7) (v := undef) rfl (by kernel_rfl) (by kernel_rfl) (by kernel_rfl) (fun _ _ _ h => h) (Or.inr ⟨rfl, rfl⟩) hHeld ?_
              simp only [List.getElem_toArray, List.getElem_cons_succ, List.getElem_cons_zero, Act.put, List.setIfInBounds_toArray, List.set_cons_zero, List.set_cons_succ]
              refine wpAnyH_take (i := 8) (v := undef) rfl (by kernel_rfl) (by kernel_rfl) (by kernel_rfl) (fun _ _ _ h => h) (Or.inr ⟨rfl, rfl⟩) hHeld ?_
              simp only [List.getElem_toArray, List.getElem_cons_succ, List.getElem_cons_zero, Act.put, List.setIfInBounds_toArray, List.set_cons_zero, List.set_cons_succ]
              refine wpAnyH_take (i := 9) (v := undef) rfl (by kernel_rfl) (by kernel_rfl) (by kernel_rfl) (fun _ _ _ h => h) (Or.inr ⟨rfl, rfl⟩) hHeld ?_
              simp only [List.getElem_toArray, List.getElem_cons_succ, List.getElem_cons_zero, Act.put, List.setIfInBounds_toArray, List.set_cons_zero, List.set_cons_succ]
              refine wpAnyH_take (i := 10) (v := undef) rfl (by kernel_rfl) (by kernel_rfl) (by kernel_rfl) (fun _ _ _ h => h) (Or.inr ⟨rfl, rfl⟩) hHeld ?_
              simp only [List.getElem_toArray, List.getElem_cons_succ, List.getElem_cons_zero, Act.put, List.setIfInBounds_toArray, List.set_cons_zero, List.set_cons_succ]
              refine wpAnyH_take (i := 11) (v := undef) rfl (by kernel_rfl) (by kernel_rfl) (by kernel_rfl) (fun _ _ _ h => h) (Or.inr ⟨rfl, rfl⟩) hHeld ?_
              simp only [List.getElem_toArray, List.getElem_cons_succ, List.getElem_cons_zero, Act.put, List.setIfInBounds_toArray, List.set_cons_zero, List.set_cons_succ]
              refine wpAnyH_take (i := 6) (v := undef) rfl (by kernel_rfl) (by kernel_rfl) (by kernel_rfl) (fun _ _ _ h => h) (Or.inr ⟨rfl, rfl⟩) hHeld ?_
              simp only [List.getElem_toArray, List.getElem_cons_succ, List.getElem_cons_zero, Act.put, List.setIfInBounds_toArray, List.set_cons_zero, List.set_cons_succ]
              refine wpAnyH_take (i := 12) (v := undef) rfl (by kernel_rfl) (by kernel_rfl) (by kernel_rfl) (fun _ _ _ h => h) (Or.inr ⟨rfl, rfl⟩) hHeld ?_
              simp only [List.getElem_toArray, List.getElem_cons_succ, List.getElem_cons_zero, Act.put, List.setIfInBounds_toArray, List.set_cons_zero, List.set_cons_succ]
              refine wpAnyH_take (i := 13) (v := ?_) rfl (by kernel_rfl) (by kernel_rfl) (by kernel_rfl) (fun _ _ _ h => h) (Or.inl ⟨rfl, ?_⟩) hHeld ?_
              rotate_left
              · (intro w hSw; (try dsimp only at hSw); go_simp; try (with_reducible rfl))
              simp only [List.getElem_toArray, List.getElem_cons_succ, List.getElem_cons_zero, Act.put, List.setIfInBounds_toArray, List.set_cons_zero, List.set_cons_succ]
              refine wpAnyH_take (i := 14) (v := ?_) rfl (by kernel_rfl) (by kernel_rfl) (by kernel_rfl) (fun _ _ _ h => h) (Or.inl ⟨rfl, ?_⟩) hHeld ?_
              rotate_left
              · (intro w hSw; (try dsimp only at hSw); go_simp; try (with_reducible rfl))
              simp only [List.getElem_toArray, List.getElem_cons_succ, List.getElem_cons_zero, Act.put, List.setIfInBounds_toArray, List.set_cons_zero, List.set_cons_succ]
              refine wpAnyH_take (i := 15) (v := ?_) rfl (by kernel_rfl) (by kernel_rfl) (by kernel_rfl) (fun _ _ _ h => h) (Or.inl ⟨rfl, ?_⟩) hHeld ?_
              rotate_left
              · (intro w hSw; (try dsimp only at hSw); go_simp; try (with_reducible rfl))
              simp only [List.getElem_toArray, List.getElem_cons_succ, List.getElem_cons_zero, Act.put, List.setIfInBounds_toArray, List.set_cons_zero, List.set_cons_succ]
              refine wpAnyH_take (i := 16) (v := ?_) rfl (by kernel_rfl) (by kernel_rfl) (by kernel_rfl) (fun _ _ _ h => h) (Or.inl ⟨rfl, ?_⟩) hHeld ?_
              rotate_left
              · (intro w hSw; (try dsimp only at hSw); go_simp; try (with_reducible rfl))
              simp only [List.getElem_toArray, List.getElem_cons_succ, List.getElem_cons_zero, Act.put, List.setIfInBounds_toArray, List.set_cons_zero, List.set_cons_succ]
              refine wpAnyH_take (i := 17) (v := ?_) rfl (by kernel_rfl) (by kernel_rfl) (by kernel_rfl) (fun _ _ _ h => h) (Or.inl ⟨rfl, ?_⟩) hHeld ?_
              rotate_left
              · (intro w hSw; (try dsimp only at hSw); go_simp; try (with_reducible rfl))
              simp only [List.getElem_toArray, List.getElem_cons_succ, List.getElem_cons_zero, Act.put, List.setIfInBounds_toArray, List.set_cons_zero, List.set_cons_succ]
              refine wpAnyH_ready (rs := [18]) (by kernel_rfl) (by simp) ?_
              refine AllReadyH.cons rfl (fun K hK => ?_) AllReadyH.nil
              simp only [List.getElem_toArray, List.getElem_cons_succ, List.getElem_cons_zero]
              go_simp
              go_wp2_with (go_at_call 19; refine (E1.out _ (Fr.refl _ _)).mono ?_; rintro e v3 ⟨rfl, hF3⟩)
              refine hK.out _ _ (by first | (exact KP.out _ hF3) | go_keep) (fun hHeld => ?_)
              clear hK K
              refine wpAnyH_take (i := 19) (v := ?_) rfl (by kernel_rfl) (by kernel_rfl) (by kernel_rfl) (fun _ _ _ h => h) (Or.inl ⟨rfl, ?_⟩) hHeld ?_
              rotate_left
              · (intro w hSw; (try dsimp only at hSw); go_simp; try (with_reducible rfl))
              simp only [List.getElem_toArray, List.getElem_cons_succ, List.getElem_cons_zero, Act.put, List.setIfInBounds_toArray, List.set_cons_zero, List.set_cons_succ]
              refine wpAnyH_take (i := 20) (v := undef) rfl (by kernel_rfl) (by kernel_rfl) (by kernel_rfl) (fun _ _ _ h => h) (Or.inr ⟨rfl, rfl⟩) hHeld ?_
              simp only [List.getElem_toArray, List.getElem_cons_succ, List.getElem_cons_zero, Act.put, List.setIfInBounds_toArray, List.set_cons_zero, List.set_cons_succ]
              refine wpAnyH_take (i := 21) (v := undef) rfl (by kernel_rfl) (by kernel_rfl) (by kernel_rfl) (fun _ _ _ h => h) (Or.inr ⟨rfl, rfl⟩) hHeld ?_
              simp only [List.getElem_toArray, List.getElem_cons_succ, List.getElem_cons_zero, Act.put, List.setIfInBounds_toArray, List.set_cons_zero, List.set_cons_succ]
              refine wpAnyH_take (i := 22) (v := undef) rfl (by kernel_rfl) (by kernel_rfl) (by kernel_rfl) (fun _ _ _ h => h) (Or.inr ⟨rfl, rfl⟩) hHeld ?_
              simp only [List.getElem_toArray, List.getElem_cons_succ, List.getElem_cons_zero, Act.put, List.setIfInBounds_toArray, List.set_cons_zero, List.set_cons_succ]
              refine wpAnyH_take (i := 23) (v := undef) rfl (by kernel_rfl) (by kernel_rfl) (by kernel_rfl) (fun _ _ _ h => h) (Or.inr ⟨rfl, rfl⟩) hHeld ?_
              simp only [List.getElem_toArray, List.getElem_cons_succ, List.getElem_cons_zero, Act.put, List.setIfInBounds_toArray, List.set_cons_zero, List.set_cons_succ]
              refine wpAnyH_take (i := 24) (v := undef) rfl (by kernel_rfl) (by kernel_rfl) (by kernel_rfl) (fun _ _ _ h => h) (Or.inr ⟨rfl, rfl⟩) hHeld ?_
              simp only [List.getElem_toArray, List.getElem_cons_succ, List.getElem_cons_zero, Act.put, List.setIfInBounds_toArray, List.set_cons_zero, List.set_cons_succ]
              refine wpAnyH_take (i := 25) (v := undef) rfl (by kernel_rfl) (by kernel_rfl) (by kernel_rfl) (fun _ _ _ h => h) (Or.inr ⟨rfl, rfl⟩) hHeld ?_
              simp only [List.getElem_toArray, List.getElem_cons_succ, List.getElem_cons_zero, Act.put, List.setIfInBounds_toArray, List.set_cons_zero, List.set_cons_succ]
              refine wpAnyH_take (i := 26) (v := ?_) rfl (by kernel_rfl) (by kernel_rfl) (by kernel_rfl) (fun _ _ _ h => h) (Or.inl ⟨rfl, ?_⟩) hHeld ?_
              rotate_left
              · (intro w hSw; (try dsimp only at hSw); go_simp; try (with_reducible rfl))
              simp only [List.getElem_toArray, List.getElem_cons_succ, List.getElem_cons_zero, Act.put, List.setIfInBounds_toArray, List.set_cons_zero, List.set_cons_succ]
              refine wpAnyH_take (i := 27) (v := ?_) rfl (by kernel_rfl) (by kernel_rfl) (by kernel_rfl) (fun _ _ _ h => h) (Or.inl ⟨rfl, ?_⟩) hHeld ?_
              rotate_left
              · (intro w hSw; (try dsimp only at hSw); go_simp; try (with_reducible rfl))
              simp only [List.getElem_toArray, List.getElem_cons_succ, List.getElem_cons_zero, Act.put, List.setIfInBounds_toArray, List.set_cons_zero, List.set_cons_succ]
              refine wpAnyH_done (by kernel_rfl) ?_ _
              have F9 := Lib.hid ((F4.out.trans FI.out (by simp)).trans (((Fr.refl [] wr).drew).trans hF3 (by simp)) (by simp))
              clear hF3
              go_wp2_with fail
              go_roundg (en - (j + 1))
              case measure => omega
              case rel => exact ⟨j + 1, rfl, by omega, rfl, F9.out⟩
            · obtain rfl := hin rfl
              clear hin
              go_wp2_with fail
              refine wp_region_held_drew (S := (fun w' => w'.cell? ⟨W.heap.size, 0, none⟩ = some (.slice ea en ec) ∧ w'.cell? ⟨W.heap.size, 1, none⟩ = some (.slice ta tn tc) ∧ w'.cell? ⟨gm, om + j * 3, none⟩ = some (.bool true))) (by kernel_rfl) (by go_keep) (fun hHeld => ?_)
              refine wpAnyH_take (i := 0) (v := ?_) rfl (by kernel_rfl) (by kernel_rfl) (by kernel_rfl) (fun _ _ _ h => h) (Or.inl ⟨rfl, ?_⟩) hHeld ?_
              rotate_left
              · (intro w hSw; (try dsimp only at hSw); go_simp; try (with_reducible rfl))
              simp only [List.getElem_toArray, List.getElem_cons_succ, List.getElem_cons_zero, Act.put, List.setIfInBounds_toArray, List.set_cons_zero, List.set_cons_succ]
              refine wpAnyH_take (i := 1) (v := ?_) rfl (by kernel_rfl) (by kernel_rfl) (by kernel_rfl) (fun _ _ _ h => h) (Or.inl ⟨rfl, ?_⟩) hHeld ?_
              rotate_left
              · (intro w hSw; (try dsimp only at hSw); go_simp; try (with_reducible rfl))
              simp only [List.getElem_toArray, List.getElem_cons_succ, List.getElem_cons_zero, Act.put, List.setIfInBounds_toArray, List.set_cons_zero, List.set_cons_succ]
              refine wpAnyH_take (i := 2) (v := ?_) rfl (by kernel_rfl) (by kernel_rfl) (by kernel_rfl) (fun _ _ _ h => h) (Or.inl ⟨rfl, ?_⟩) hHeld ?_
              rotate_left
              · (intro w hSw; (try dsimp only at hSw); go_simp; try (with_reducible rfl))
              simp only [List.getElem_toArray, List.getElem_cons_succ, List.getElem_cons_zero, Act.put, List.setIfInBounds_toArray, List.set_cons_zero, List.set_cons_succ]
              refine wpAnyH_take (i := 3) (v := undef) rfl (by kernel_rfl) (by kernel_rfl) (by kernel_rfl) (fun _ _ _ h => h) (Or.inr ⟨rfl, rfl⟩) hHeld ?_
              simp only [List.getElem_toArray, List.getElem_cons_succ, List.getElem_cons_zero, Act.put, List.setIfInBounds_toArray, List.set_cons_zero, List.set_cons_succ]
              refine wpAnyH_take (i := 4) (v := undef) rfl (by kernel_rfl) (by kernel_rfl) (by kernel_rfl) (fun _ _ _ h => h) (Or.inr ⟨rfl, rfl⟩) hHeld ?_
              simp only [List.getElem_toArray, List.getElem_cons_succ, List.getElem_cons_zero, Act.put, List.setIfInBounds_toArray, List.set_cons_zero, List.set_cons_succ]
              refine wpAnyH_take (i := 5) (v := undef) rfl (by kernel_rfl) (by kernel_rfl) (by kernel_rfl) (fun _ _ _ h => h) (Or.inr ⟨rfl, rfl⟩) hHeld ?_
              simp only [List.getElem_toArray, List.getElem_cons_succ, List.getElem_cons_zero, Act.put, List.setIfInBounds_toArray, List.set_cons_zero, List.set_cons_succ]
              refine wpAnyH_take (i := 7) (v := undef) rfl (by kernel_rfl) (by kernel_rfl) (by kernel_rfl) (fun _ _ _ h => h) (Or.inr ⟨rfl, rfl⟩) hHeld ?_
              simp only [List.getElem_toArray, List.getElem_cons_succ, List.getElem_cons_zero, Act.put, List.setIfInBounds_toArray, List.set_cons_zero, List.set_cons_succ]
              refine wpAnyH_take (i := 8) (v := undef) rfl (by kernel_rfl) (by kernel_rfl) (by kernel_rfl) (fun _ _ _ h => h) (Or.inr ⟨rfl, rfl⟩) hHeld ?_
              simp only [List.getElem_toArray, List.getElem_cons_succ, List.getElem_cons_zero, Act.put, List.setIfInBounds_toArray, List.set_cons_zero, List.set_cons_succ]
              refine wpAnyH_take (i := 9) (v := undef) rfl (by kernel_rfl) (by kernel_rfl) (by kernel_rfl) (fun _ _ _ h => h) (Or.inr ⟨rfl, rfl⟩) hHeld ?_
              simp only [List.getElem_toArray, List.getElem_cons_succ, List.getElem_cons_zero, Act.put, List.setIfInBounds_toArray, List.set_cons_zero, List.set_cons_succ]
              refine wpAnyH_take (i := 10) (v := undef) rfl (by kernel_rfl) (by kernel_rfl) (by kernel_rfl) (fun _ _ _ h => h) (Or.inr ⟨rfl, rfl⟩) hHeld ?_
              simp only [List.getElem_toArray, List.getElem_cons_succ, List.getElem_cons_zero, Act.put, List.setIfInBounds_toArray, List.set_cons_zero, List.set_cons_succ]
              refine wpAnyH_take (i := 11) (v := undef) rfl (by kernel_rfl) (by kernel_rfl) (by kernel_rfl) (fun _ _ _ h => h) (Or.inr ⟨rfl, rfl⟩) hHeld ?_
              simp only [List.getElem_toArray, List.getElem_cons_succ, List.getElem_cons_zero, Act.put, List.setIfInBounds_toArray, List.set_cons_zero, List.set_cons_succ]
              refine wpAnyH_take (i := 6) (v := undef) rfl (by kernel_rfl) (by kernel_rfl) (by kernel_rfl) (fun _ _ _ h => h) (Or.inr ⟨rfl, rfl⟩) hHeld ?_
              simp only [List.getElem_toArray, List.getElem_cons_succ, List.getElem_cons_zero, Act.put, List.setIfInBounds_toArray, List.set_cons_zero, List.set_cons_succ]
              refine wpAnyH_take (i := 12) (v := undef) rfl (by kernel_rfl) (by kernel_rfl) (by kernel_rfl) (fun _ _ _ h => h) (Or.inr ⟨rfl, rfl⟩) hHeld ?_
              simp only [List.getElem_toArray, List.getElem_cons_succ, List.getElem_cons_zero, Act.put, List.setIfInBounds_toArray, List.set_cons_zero, List.set_cons_succ]
              refine wpAnyH_take (i := 13) (v := ?_) rfl (by kernel_rfl) (by kernel_rfl) (by kernel_rfl) (fun _ _ _ h => h) (Or.inl ⟨rfl, ?_⟩) hHeld ?_
              rotate_left
              · (intro w hSw; (try dsimp only at hSw); go_simp; try (with_reducible rfl))
              simp only [List.getElem_toArray, List.getElem_cons_succ, List.getElem_cons_zero, Act.put, List.setIfInBounds_toArray, List.set_cons_zero, List.set_cons_succ]
              refine wpAnyH_take (i := 14) (v := ?_) rfl (by kernel_rfl) (by kernel_rfl) (by kernel_rfl) (fun _ _ _ h => h) (Or.inl ⟨rfl, ?_⟩) hHeld ?_
              rotate_left
              · (intro w hSw; (try dsimp only at hSw); go_simp; try (with_reducible rfl))
              simp only [List.getElem_toArray, List.getElem_cons_succ, List.getElem_cons_zero, Act.put, List.setIfInBounds_toArray, List.set_cons_zero, List.set_cons_succ]
              refine wpAnyH_take (i := 15) (v := ?_) rfl (by kernel_rfl) (by kernel_rfl) (by kernel_rfl) (fun _ _ _ h => h) (Or.inl ⟨rfl, ?_⟩) hHeld ?_
              rotate_left
              · (intro w hSw; (try dsimp only at hSw); go_simp; try (with_reducible rfl))
              simp only [List.getElem_toArray, List.getElem_cons_succ, List.getElem_cons_zero, Act.put, List.setIfInBounds_toArray, List.set_cons_zero, List.set_cons_succ]
              refine wpAnyH_take (i := 16) (v := ?_) rfl (by kernel_rfl) (by kernel_rfl) (by kernel_rfl) (fun _ _ _ h => h) (Or.inl ⟨rfl, ?_⟩) hHeld ?_
              rotate_left
              · (intro w hSw; (try dsimp only at hSw); go_simp; try (with_reducible rfl))
              simp only [List.getElem_toArray, List.getElem_cons_succ, List.getElem_cons_zero, Act.put, List.setIfInBounds_toArray, List.set_cons_zero, List.set_cons_succ]
              refine wpAnyH_take (i := 17) (v := ?_) rfl (by kernel_rfl) (by kernel_rfl) (by kernel_rfl) (fun _ _ _ h => h) (Or.inl ⟨rfl, ?_⟩) hHeld ?_
              rotate_left
              · (intro w hSw; (try dsimp only at hSw); go_simp; try (with_reducible rfl))
              simp only [List.getElem_toArray, List.getElem_cons_succ, List.getElem_cons_zero, Act.put, List.setIfInBounds_toArray, List.set_cons_zero, List.set_cons_succ]
              refine wpAnyH_ready (rs := [18]) (by kernel_rfl) (by simp) ?_
              refine AllReadyH.cons rfl (fun K hK => ?_) AllReadyH.nil
              simp only [List.getElem_toArray, List.getElem_cons_succ, List.getElem_cons_zero]
              go_simp
              go_wp2_with (go_at_call 19; refine (E1.out _ (Fr.refl _ _)).mono ?_; rintro e v3 ⟨rfl, hF3⟩)
              refine hK.out _ _ (by first | (exact KP.out _ hF3) | go_keep) (fun hHeld => ?_)
              clear hK K
              refine wpAnyH_take (i := 19) (v := ?_) rfl (by kernel_rfl) (by kernel_rfl) (by kernel_rfl) (fun _ _ _ h => h) (Or.inl ⟨rfl, ?_⟩) hHeld ?_
              rotate_left
              · (intro w hSw; (try dsimp only at hSw); go_simp; try (with_reducible rfl))
              simp only [List.getElem_toArray, List.getElem_cons_succ, List.getElem_cons_zero, Act.put, List.setIfInBounds_toArray, List.set_cons_zero, List.set_cons_succ]
              refine wpAnyH_take (i := 20) (v := ?_) rfl (by kernel_rfl) (by kernel_rfl) (by kernel_rfl) (fun _ _ _ h => h) (Or.inl ⟨rfl, ?_⟩) hHeld ?_
              rotate_left
              · (intro w hSw; (try dsimp only at hSw); go_simp; try (with_reducible rfl))
              simp only [List.getElem_toArray, List.getElem_cons_succ, List.getElem_cons_zero, Act.put, List.setIfInBounds_toArray, List.set_cons_zero, List.set_cons_succ]
              refine wpAnyH_take (i := 21) (v := ?_) rfl (by kernel_rfl) (by kernel_rfl) (by kernel_rfl) (fun _ _ _ h => h) (Or.inl ⟨rfl, ?_⟩) hHeld ?_
              rotate_left
              · (intro w hSw; (try dsimp only at hSw); go_simp; try (with_reducible rfl))
              simp only [List.getElem_toArray, List.getElem_cons_succ, List.getElem_cons_zero, Act.put, List.setIfInBounds_toArray, List.set_cons_zero, List.set_cons_succ]
              refine wpAnyH_take (i := 22) (v := ?_) rfl (by kernel_rfl) (by kernel_rfl) (by kernel_rfl) (fun _ _ _ h => h) (Or.inl ⟨rfl, ?_⟩) hHeld ?_
              rotate_left
              · (intro w hSw; (try dsimp only at hSw); go_simp; try (with_reducible rfl))
              simp only [List.getElem_toArray, List.getElem_cons_succ, List.getElem_cons_zero, Act.put, List.setIfInBounds_toArray, List.set_cons_zero, List.set_cons_succ]
              refine wpAnyH_take (i := 23) (v := ?_) rfl (by kernel_rfl) (by kernel_rfl) (by kernel_rfl) (fun _ _ _ h => h) (Or.inl ⟨rfl, ?_⟩) hHeld ?_
              rotate_left
              · (intro w hSw; (try dsimp only at hSw); go_simp; try (with_reducible rfl))
              simp only [List.getElem_toArray, List.getElem_cons_succ, List.getElem_cons_zero, Act.put, List.setIfInBounds_toArray, List.set_cons_zero, List.set_cons_succ]
              refine wpAnyH_take (i := 24) (v := ?_) rfl (by kernel_rfl) (by kernel_rfl) (by kernel_rfl) (fun _ _ _ h => h) (Or.inl ⟨rfl, ?_⟩) hHeld ?_
              rotate_left
              · (intro w hSw; (try dsimp only at hSw); go_simp; try (with_reducible rfl))
              simp only [List.getElem_toArray, List.getElem_cons_succ, List.getElem_cons_zero, Act.put, List.setIfInBounds_toArray, List.set_cons_zero, List.set_cons_succ]
              refine wpAnyH_take (i := 25) (v := ?_) rfl (by kernel_rfl) (by kernel_rfl) (by kernel_rfl) (fun _ _ _ h => h) (Or.inl ⟨rfl, ?_⟩) hHeld ?_
              rotate_left
              · (intro w hSw; (try dsimp only at hSw); go_simp; try (with_reducible rfl))
              simp only [List.getElem_toArray, List.getElem_cons_succ, List.getElem_cons_zero, Act.put, List.setIfInBounds_toArray, List.set_cons_zero, List.set_cons_succ]
              refine wpAnyH_take (i := 26) (v := ?_) rfl (by kernel_rfl) (by kernel_rfl) (by kernel_rfl) (fun _ _ _ h => h) (Or.inl ⟨rfl, ?_⟩) hHeld ?_
              rotate_left
              · (intro w hSw; (try dsimp only at hSw); go_simp; try (with_reducible rfl))
              simp only [List.getElem_toArray, List.getElem_cons_succ, List.getElem_cons_zero, Act.put, List.setIfInBounds_toArray, List.set_cons_zero, List.set_cons_succ]
              refine wpAnyH_take (i := 27) (v := ?_) rfl (by kernel_rfl) (by kernel_rfl) (by kernel_rfl) (fun _ _ _ h => h) (Or.inl ⟨rfl, ?_⟩) hHeld ?_
              rotate_left
              · (intro w hSw; (try dsimp only at hSw); go_simp; try (with_reducible rfl))
              simp only [List.getElem_toArray, List.getElem_cons_succ, List.getElem_cons_zero, Act.put, List.setIfInBounds_toArray, List.set_cons_zero, List.set_cons_succ]
              refine wpAnyH_done (by kernel_rfl) ?_ _
              have F9 := Lib.hid ((F4.out.trans FI.out (by simp)).trans (((Fr.refl [] wr).drew).trans hF3 (by simp)) (by simp))
              clear hF3
              go_wp2_with fail
              go_roundg (en - (j + 1))
              case measure => omega
              case rel => exact ⟨j + 1, rfl, by omega, rfl, F9.out⟩
    · have hdn : decide (j < en) = false := decide_eq_false hjn
      go_wp2_with fail
      go_ret
      exact ⟨rfl, (F3.out.trans F4.out (by simp)).nil_below⟩
end Go.Proofs.Ytclkahggfdnpgaa

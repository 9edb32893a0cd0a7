/- Parts of the proof: Rt4. (Merged by pack.py.) -/
import Derived.Test.YtclkahggfdnpgaaDz20
set_option linter.unusedVariables false
set_option linter.unusedSimpArgs false
namespace Go.Proofs.Ytclkahggfdnpgaa
open Go.RowKit
def rslackN (R : RefD) (j : Nat) : Int := (liveN R.L j).foldl (fun n x => min n (slackI (R.pl.f x).en x.m)) 1048576
theorem rslackN_succ (R : RefD) (j : Nat) : rslackN R (j + 1) = if (R.L.getD j default).lives then min (rslackN R j) (slackI (R.Fs.getD (R.L.getD j default).tp default).en (R.L.getD j default).m) else rslackN R j := by
  unfold rslackN
  rw [liveN_succ, List.foldl_append]
  generalize hx : R.L.getD j default = x
  cases h : x.lives
  · rfl
  · simp only [if_true, List.foldl_cons, List.foldl_nil]
    have : R.pl.f (x.pi j) = (R.Fs.getD x.tp default).nrm := getD_nrm _ _
    rw [this]
    rfl
theorem RefAt.tp {R : RefD} {q : Nat} (g : GoodP R.pl q) {j : Nat} (hj : j < R.L.length) (hl : (R.L.getD j default).lives = true) : (R.L.getD j default).tp < R.Fs.length ∧ fitsB (R.Fs.getD (R.L.getD j default).tp default).en (R.L.getD j default).m = true := by
  have hm : (R.L.getD j default).pi j ∈ R.pl.L := liveN_mem.2 ⟨j, hj, hl, rfl⟩
  have h1 := g.tp _ hm
  have h2 := g.fit _ hm
  have h3 : R.pl.f ((R.L.getD j default).pi j) = (R.Fs.getD (R.L.getD j default).tp default).nrm := getD_nrm _ _
  rw [h3] at h2
  refine ⟨?_, h2⟩
  have : R.pl.Fs.length = R.Fs.length := by show (R.Fs.map FlatD.nrm).length = _; simp
  rw [this] at h1
  exact h1
set_option maxHeartbeats 4000000 in
set_option maxRecDepth 100000 in
theorem rtslack_any (rb : Nat) (R : RefD) (w : World) {q : Nat} (h : RefAt w rb R) (gd : GoodP R.pl q) :
    Calls Try.prog 55 #[.pointer (some ⟨rb, 0, none⟩)] w fun e w' => e = .returned (.int .i64 R.pl.slack) ∧ Fr [] w w' := by
  obtain ⟨a, c, hv⟩ := h.lvform
  have r2 : w.cell? ⟨rb, 2, none⟩ = some (.slice a R.L.length c) := by rw [← hv]; exact h.head.cell 2
  have r0 : w.cell? ⟨rb, 0, none⟩ = some (.slice R.fa R.Fs.length R.fc) := h.head.cell 0
  have HH := Lib.hid h
  have HG := Lib.hid gd
  have HV := Lib.hid hv
  have hfew := h.few
  have HFU := Lib.hid (show rslackN R R.L.length = R.pl.slack from rfl)
  have SU := Lib.hid (rslackN_succ R)
  obtain ⟨n, hn⟩ : ∃ n, n = R.L.length := ⟨_, rfl⟩
  obtain ⟨nf, hnf⟩ : ∃ n, n = R.Fs.length := ⟨_, rfl⟩
  rw [← hn] at r2 hfew HFU
  rw [← hnf] at r0
  have HN := Lib.hid hn
  have HNF := Lib.hid hnf
  have R2 := Lib.hid r2
  have R0 := Lib.hid r0
  clear h gd hv hn hnf r2 r0
  go_enter Try.func55, Try.ntmps55
  go_wp2_with fail
  go_loopg [3, 4] n (fun k v i wr => ∃ (j : Nat), k = n - j ∧ j ≤ n ∧ i = .int .i64 j ∧ v = .int .i64 (rslackN R j) ∧ Fr [] w wr)
  case atStart => exact ⟨0, rfl, by omega, rfl, rfl, Fr.refl _ _⟩
  case round =>
    obtain ⟨j, rfl, hj, rfl, rfl, hF⟩ := hrel
    have F := Lib.hid hF
    have SJ := Lib.hid (SU.out j)
    have r2 := cell_fr' R2.out hF
    clear hF
    by_cases hjn : j < n
    · have hd : decide (j < n) = true := by rw [decide_eq_true_iff]; omega
      obtain ⟨g, c2, hv2, _, hg, hc⟩ := (HH.out.fr F.out).node (i := j) (by rw [← HN.out]; exact hjn)
      rw [HV.out] at hv2
      simp only [Value.slice.injEq] at hv2
      obtain ⟨rfl, _, rfl⟩ := hv2
      have TP := Lib.hid (fun hl => RefAt.tp HG.out (j := j) (by rw [← HN.out]; exact hjn) hl)
      have MK := Lib.hid (((HH.out.fr F.out).mks _ (getD_memD R.L j (by rw [← HN.out]; exact hjn))))
      obtain ⟨x, hx⟩ : ∃ x, R.L.getD j default = x := ⟨_, rfl⟩
      rw [hx] at hc SJ TP MK
      have x0 : wr.cell? ⟨g, j * 5, none⟩ = some (.bool x.lives) := hc 0 _ rfl
      obtain ⟨lb, hlb⟩ : ∃ b, x.lives = b := ⟨_, rfl⟩
      rw [hlb] at x0 SJ TP
      cases lb
      · have SJ2 := Lib.hid (show rslackN R (j + 1) = rslackN R j by rw [SJ.out]; simp)
        clear hc hx hlb
        go_wp2_with fail
        go_roundg (n - (j + 1))
        case measure => omega
        case rel => exact ⟨j + 1, rfl, by omega, rfl, by rw [SJ2.out], F.out⟩
      · have SJ2 := Lib.hid (show rslackN R (j + 1) = min (rslackN R j) (slackI (R.Fs.getD x.tp default).en x.m) by rw [SJ.out]; simp)
        obtain ⟨htp, hft⟩ := TP.out rfl
        obtain ⟨gt, ot, hfa, _, hct⟩ := (HH.out.rows.fr F.out).at_ (by omega)
        have hcx := hct x.tp (by omega)
        obtain ⟨f, hf⟩ : ∃ f, R.Fs.getD x.tp default = f := ⟨_, rfl⟩
        have hfm : f ∈ R.Fs := by rw [← hf]; exact getD_memD _ _ htp
        have hen := HH.out.en f hfm
        rw [hf] at hcx SJ2 hft
        have x1 : wr.cell? ⟨g, j * 5 + 1, none⟩ = some (.int .i64 x.tp) := hc 1 _ rfl
        have x4 : wr.cell? ⟨g, j * 5 + 4, none⟩ = some (.slice x.a x.m.length x.c) := hc 4 _ rfl
        have y0 : wr.cell? ⟨gt, ot + x.tp * 2, none⟩ = some (.slice f.ea f.en f.ec) := hcx 0 _ rfl
        have y1 : wr.cell? ⟨gt, ot + x.tp * 2 + 1, none⟩ = some (.slice f.ta f.tn f.tc) := hcx 1 _ rfl
        have r0 := cell_fr' R0.out F.out
        rw [hfa] at r0
        have htn : x.tp < nf := by rw [HNF.out]; exact htp
        have hmle : x.m.length ≤ 10 := by rw [fits_len hft]; exact hen
        have D1 := Lib.hid (fun w' (g' : Fr [] wr w') => rslack_any f x.a x.m.length x.c x.m w' (MK.out.fr g') (by omega) (by omega))
        obtain ⟨s, hs⟩ : ∃ s, slackI f.en x.m = s := ⟨_, rfl⟩
        rw [hs] at D1 SJ2
        obtain ⟨s0, hs0⟩ : ∃ s, rslackN R j = s := ⟨_, rfl⟩
        rw [hs0] at SJ2 ⊢
        obtain ⟨xa, hxa⟩ : ∃ a, x.a = a := ⟨_, rfl⟩
        obtain ⟨xc, hxc⟩ : ∃ a, x.c = a := ⟨_, rfl⟩
        obtain ⟨ml, hml⟩ : ∃ a, x.m.length = a := ⟨_, rfl⟩
        obtain ⟨tp, htp2⟩ : ∃ a, x.tp = a := ⟨_, rfl⟩
        rw [hxa, hml, hxc] at x4 D1
        rw [htp2] at x1 y0 y1 htn
        have dt : decide (tp < nf) = true := decide_eq_true htn
        have KP := Lib.hid (fun w' (f' : Fr [] wr w') => (⟨cell_fr' r0 f', cell_fr' r2 f', cell_fr' x1 f', cell_fr' x4 f', cell_fr' y0 f', cell_fr' y1 f'⟩ : w'.cell? ⟨rb, 0, none⟩ = some (.slice (some ⟨gt, ot, none⟩) nf R.fc) ∧ w'.cell? ⟨rb, 2, none⟩ = some (.slice (some ⟨g, 0, none⟩) n c) ∧ w'.cell? ⟨g, j * 5 + 1, none⟩ = some (.int .i64 tp) ∧ w'.cell? ⟨g, j * 5 + 4, none⟩ = some (.slice xa ml xc) ∧ w'.cell? ⟨gt, ot + tp * 2, none⟩ = some (.slice f.ea f.en f.ec) ∧ w'.cell? ⟨gt, ot + tp * 2 + 1, none⟩ = some (.slice f.ta f.tn f.tc)))
        unfold FlatD.val at D1
        have hml10 : ml ≤ 10 := by rw [← hml]; exact hmle
        clear hc hx hlb hct hcx hf hfm hs hs0 hxa hxc hml htp2 htp hft hfa hmle
        go_wp2_with fail
        refine wp_region_held_drew (S := (fun w' => w'.cell? ⟨rb, 0, none⟩ = some (.slice (some ⟨gt, ot, none⟩) nf R.fc) ∧ w'.cell? ⟨rb, 2, none⟩ = some (.slice (some ⟨g, 0, none⟩) n c) ∧ w'.cell? ⟨g, j * 5 + 1, none⟩ = some (.int .i64 tp) ∧ w'.cell? ⟨g, j * 5 + 4, none⟩ = some (.slice xa ml xc) ∧ w'.cell? ⟨gt, ot + tp * 2, none⟩ = some (.slice f.ea f.en f.ec) ∧ w'.cell? ⟨gt, ot + tp * 2 + 1, none⟩ = some (.slice f.ta f.tn f.tc))) (by kernel_rfl) (KP.out _ ((Fr.refl [] wr).drew)) (fun hHeld => ?_)
        refine wpAnyH_take (i := 0) (v := ?_) rfl (by kernel_rfl) (by kernel_rfl) (by kernel_rfl) (fun _ _ _ h => h) (Or.inl ⟨rfl, ?_⟩) hHeld ?_
        rotate_left
        · (intro w hSw; (try dsimp only at hSw); go_simp; try (with_reducible rfl))
        simp only [List.getElem_toArray, List.getElem_cons_succ, List.getElem_cons_zero, Act.put, List.setIfInBounds_toArray, List.set_cons_zero, List.set_cons_succ]
        refine wpAnyH_take (i := 1) (v := ?_) rfl (by kernel_rfl) (by kernel_rfl) (by kernel_rfl) (fun _ _ _ h => h) (Or.inl ⟨rfl, ?_⟩) hHeld ?_
        rotate_left
        · (intro w hSw; (try dsimp only at hSw); go_simp; try (with_reducible rfl))
        simp only [List.getElem_toArray, List.getElem_cons_succ, List.getElem_cons_zero, Act.put, List.setIfInBounds_toArray, List.set_cons_zero, List.set_cons_succ]
        refine wpAnyH_take (i := 2) (v := ?_) rfl (by kernel_rfl) (by kernel_rfl) (by kernel_rfl) (fun _ _ _ h => h) (Or.inl ⟨rfl, ?_⟩) hHeld ?_
        rotate_left
        · (intro w hSw; (try dsimp only at hSw); go_simp; try (with_reducible rfl))
        simp only [List.getElem_toArray, List.getElem_cons_succ, List.getElem_cons_zero, Act.put, List.setIfInBounds_toArray, List.set_cons_zero, List.set_cons_succ]
        refine wpAnyH_take (i := 3) (v := ?_) rfl (by kernel_rfl) (by kernel_rfl) (by kernel_rfl) (fun _ _ _ h => h) (Or.inl ⟨rfl, ?_⟩) hHeld ?_
        rotate_left
        · (intro w hSw; (try dsimp only at hSw); go_simp; try (with_reducible rfl))
        simp only [List.getElem_toArray, List.getElem_cons_succ, List.getElem_cons_zero, Act.put, List.setIfInBounds_toArray, List.set_cons_zero, List.set_cons_succ]
        refine wpAnyH_take (i := 4) (v := ?_) rfl (by kernel_rfl) (by kernel_rfl) (by kernel_rfl) (fun _ _ _ h => h) (Or.inl ⟨rfl, ?_⟩) hHeld ?_
        rotate_left
        · (intro w hSw; (try dsimp only at hSw); go_simp; try (with_reducible rfl))
        simp only [List.getElem_toArray, List.getElem_cons_succ, List.getElem_cons_zero, Act.put, List.setIfInBounds_toArray, List.set_cons_zero, List.set_cons_succ]
        refine wpAnyH_take (i := 5) (v := ?_) rfl (by kernel_rfl) (by kernel_rfl) (by kernel_rfl) (fun _ _ _ h => h) (Or.inl ⟨rfl, ?_⟩) hHeld ?_
        rotate_left
        · (intro w hSw; (try dsimp only at hSw); go_simp; try (with_reducible rfl))
        simp only [List.getElem_toArray, List.getElem_cons_succ, List.getElem_cons_zero, Act.put, List.setIfInBounds_toArray, List.set_cons_zero, List.set_cons_succ]
        refine wpAnyH_take (i := 6) (v := ?_) rfl (by kernel_rfl) (by kernel_rfl) (by kernel_rfl) (fun _ _ _ h => h) (Or.inl ⟨rfl, ?_⟩) hHeld ?_
        rotate_left
        · (intro w hSw; (try dsimp only at hSw); go_simp; try (with_reducible rfl))
        simp only [List.getElem_toArray, List.getElem_cons_succ, List.getElem_cons_zero, Act.put, List.setIfInBounds_toArray, List.set_cons_zero, List.set_cons_succ]
        refine wpAnyH_take (i := 7) (v := ?_) rfl (by kernel_rfl) (by kernel_rfl) (by kernel_rfl) (fun _ _ _ h => h) (Or.inl ⟨rfl, ?_⟩) hHeld ?_
        rotate_left
        · (intro w hSw; (try dsimp only at hSw); go_simp; try (with_reducible rfl))
        simp only [List.getElem_toArray, List.getElem_cons_succ, List.getElem_cons_zero, Act.put, List.setIfInBounds_toArray, List.set_cons_zero, List.set_cons_succ]
        refine wpAnyH_take (i := 8) (v := ?_) rfl (by kernel_rfl) (by kernel_rfl) (by kernel_rfl) (fun _ _ _ h => h) (Or.inl ⟨rfl, ?_⟩) hHeld ?_
        rotate_left
        · (intro w hSw; (try dsimp only at hSw); go_simp; try (with_reducible rfl))
        simp only [List.getElem_toArray, List.getElem_cons_succ, List.getElem_cons_zero, Act.put, List.setIfInBounds_toArray, List.set_cons_zero, List.set_cons_succ]
        refine wpAnyH_take (i := 9) (v := ?_) rfl (by kernel_rfl) (by kernel_rfl) (by kernel_rfl) (fun _ _ _ h => h) (Or.inl ⟨rfl, ?_⟩) hHeld ?_
        rotate_left
        · (intro w hSw; (try dsimp only at hSw); go_simp; try (with_reducible rfl))
        simp only [List.getElem_toArray, List.getElem_cons_succ, List.getElem_cons_zero, Act.put, List.setIfInBounds_toArray, List.set_cons_zero, List.set_cons_succ]
        refine wpAnyH_take (i := 10) (v := ?_) rfl (by kernel_rfl) (by kernel_rfl) (by kernel_rfl) (fun _ _ _ h => h) (Or.inl ⟨rfl, ?_⟩) hHeld ?_
        rotate_left
        · (intro w hSw; (try dsimp only at hSw); go_simp; try (with_reducible rfl))
        simp only [List.getElem_toArray, List.getElem_cons_succ, List.getElem_cons_zero, Act.put, List.setIfInBounds_toArray, List.set_cons_zero, List.set_cons_succ]
        refine wpAnyH_take (i := 11) (v := ?_) rfl (by kernel_rfl) (by kernel_rfl) (by kernel_rfl) (fun _ _ _ h => h) (Or.inl ⟨rfl, ?_⟩) hHeld ?_
        rotate_left
        · (intro w hSw; (try dsimp only at hSw); go_simp; try (with_reducible rfl))
        simp only [List.getElem_toArray, List.getElem_cons_succ, List.getElem_cons_zero, Act.put, List.setIfInBounds_toArray, List.set_cons_zero, List.set_cons_succ]
        refine wpAnyH_take (i := 12) (v := ?_) rfl (by kernel_rfl) (by kernel_rfl) (by kernel_rfl) (fun _ _ _ h => h) (Or.inl ⟨rfl, ?_⟩) hHeld ?_
        rotate_left
        · (intro w hSw; (try dsimp only at hSw); go_simp; try (with_reducible rfl))
        simp only [List.getElem_toArray, List.getElem_cons_succ, List.getElem_cons_zero, Act.put, List.setIfInBounds_toArray, List.set_cons_zero, List.set_cons_succ]
        refine wpAnyH_take (i := 13) (v := ?_) rfl (by kernel_rfl) (by kernel_rfl) (by kernel_rfl) (fun _ _ _ h => h) (Or.inl ⟨rfl, ?_⟩) hHeld ?_
        rotate_left
        · (intro w hSw; (try dsimp only at hSw); go_simp; try (with_reducible rfl))
        simp only [List.getElem_toArray, List.getElem_cons_succ, List.getElem_cons_zero, Act.put, List.setIfInBounds_toArray, List.set_cons_zero, List.set_cons_succ]
        refine wpAnyH_take (i := 14) (v := ?_) rfl (by kernel_rfl) (by kernel_rfl) (by kernel_rfl) (fun _ _ _ h => h) (Or.inl ⟨rfl, ?_⟩) hHeld ?_
        rotate_left
        · (intro w hSw; (try dsimp only at hSw); go_simp; try (with_reducible rfl))
        simp only [List.getElem_toArray, List.getElem_cons_succ, List.getElem_cons_zero, Act.put, List.setIfInBounds_toArray, List.set_cons_zero, List.set_cons_succ]
        refine wpAnyH_take (i := 15) (v := ?_) rfl (by kernel_rfl) (by kernel_rfl) (by kernel_rfl) (fun _ _ _ h => h) (Or.inl ⟨rfl, ?_⟩) hHeld ?_
        rotate_left
        · (intro w hSw; (try dsimp only at hSw); go_simp; try (with_reducible rfl))
        simp only [List.getElem_toArray, List.getElem_cons_succ, List.getElem_cons_zero, Act.put, List.setIfInBounds_toArray, List.set_cons_zero, List.set_cons_succ]
        refine wpAnyH_take (i := 16) (v := ?_) rfl (by kernel_rfl) (by kernel_rfl) (by kernel_rfl) (fun _ _ _ h => h) (Or.inl ⟨rfl, ?_⟩) hHeld ?_
        rotate_left
        · (intro w hSw; (try dsimp only at hSw); go_simp; try (with_reducible rfl))
        simp only [List.getElem_toArray, List.getElem_cons_succ, List.getElem_cons_zero, Act.put, List.setIfInBounds_toArray, List.set_cons_zero, List.set_cons_succ]
        refine wpAnyH_take (i := 17) (v := ?_) rfl (by kernel_rfl) (by kernel_rfl) (by kernel_rfl) (fun _ _ _ h => h) (Or.inl ⟨rfl, ?_⟩) hHeld ?_
        rotate_left
        · (intro w hSw; (try dsimp only at hSw); go_simp; try (with_reducible rfl))
        simp only [List.getElem_toArray, List.getElem_cons_succ, List.getElem_cons_zero, Act.put, List.setIfInBounds_toArray, List.set_cons_zero, List.set_cons_succ]
        refine wpAnyH_take (i := 18) (v := ?_) rfl (by kernel_rfl) (by kernel_rfl) (by kernel_rfl) (fun _ _ _ h => h) (Or.inl ⟨rfl, ?_⟩) hHeld ?_
        rotate_left
        · (intro w hSw; (try dsimp only at hSw); go_simp; try (with_reducible rfl))
        simp only [List.getElem_toArray, List.getElem_cons_succ, List.getElem_cons_zero, Act.put, List.setIfInBounds_toArray, List.set_cons_zero, List.set_cons_succ]
        refine wpAnyH_take (i := 19) (v := ?_) rfl (by kernel_rfl) (by kernel_rfl) (by kernel_rfl) (fun _ _ _ h => h) (Or.inl ⟨rfl, ?_⟩) hHeld ?_
        rotate_left
        · (intro w hSw; (try dsimp only at hSw); go_simp; try (with_reducible rfl))
        simp only [List.getElem_toArray, List.getElem_cons_succ, List.getElem_cons_zero, Act.put, List.setIfInBounds_toArray, List.set_cons_zero, List.set_cons_succ]
        refine wpAnyH_take (i := 20) (v := ?_) rfl (by kernel_rfl) (by kernel_rfl) (by kernel_rfl) (fun _ _ _ h => h) (Or.inl ⟨rfl, ?_⟩) hHeld ?_
        rotate_left
        · (intro w hSw; (try dsimp only at hSw); go_simp; try (with_reducible rfl))
        simp only [List.getElem_toArray, List.getElem_cons_succ, List.getElem_cons_zero, Act.put, List.setIfInBounds_toArray, List.set_cons_zero, List.set_cons_succ]
        refine wpAnyH_take (i := 21) (v := ?_) rfl (by kernel_rfl) (by kernel_rfl) (by kernel_rfl) (fun _ _ _ h => h) (Or.inl ⟨rfl, ?_⟩) hHeld ?_
        rotate_left
        · (intro w hSw; (try dsimp only at hSw); go_simp; try (with_reducible rfl))
        simp only [List.getElem_toArray, List.getElem_cons_succ, List.getElem_cons_zero, Act.put, List.setIfInBounds_toArray, List.set_cons_zero, List.set_cons_succ]
        refine wpAnyH_take (i := 22) (v := ?_) rfl (by kernel_rfl) (by kernel_rfl) (by kernel_rfl) (fun _ _ _ h => h) (Or.inl ⟨rfl, ?_⟩) hHeld ?_
        rotate_left
        · (intro w hSw; (try dsimp only at hSw); go_simp; try (with_reducible rfl))
        simp only [List.getElem_toArray, List.getElem_cons_succ, List.getElem_cons_zero, Act.put, List.setIfInBounds_toArray, List.set_cons_zero, List.set_cons_succ]
        refine wpAnyH_ready (rs := [23]) (by kernel_rfl) (by simp) ?_
        refine AllReadyH.cons rfl (fun K hK => ?_) AllReadyH.nil
        simp only [List.getElem_toArray, List.getElem_cons_succ, List.getElem_cons_zero]
        go_simp
        go_wp2_with (first | (go_at_call 23; refine (D1.out _ ((Fr.refl [] wr).drew)).mono ?_; rintro e v1 ⟨rfl, hG1⟩))
        refine hK.out _ _ (by first | (exact KP.out _ (((Fr.refl [] wr).drew).trans hG1 (by simp))) | go_keep) (fun hHeld => ?_)
        clear hK K
        refine wpAnyH_take (i := 24) (v := ?_) rfl (by kernel_rfl) (by kernel_rfl) (by kernel_rfl) (fun _ _ _ h => h) (Or.inl ⟨rfl, ?_⟩) hHeld ?_
        rotate_left
        · (intro w hSw; (try dsimp only at hSw); go_simp; try (with_reducible rfl))
        simp only [List.getElem_toArray, List.getElem_cons_succ, List.getElem_cons_zero, Act.put, List.setIfInBounds_toArray, List.set_cons_zero, List.set_cons_succ]
        refine wpAnyH_take (i := 25) (v := ?_) rfl (by kernel_rfl) (by kernel_rfl) (by kernel_rfl) (fun _ _ _ h => h) (Or.inl ⟨rfl, ?_⟩) hHeld ?_
        rotate_left
        · (intro w hSw; (try dsimp only at hSw); go_simp; try (with_reducible rfl))
        simp only [List.getElem_toArray, List.getElem_cons_succ, List.getElem_cons_zero, Act.put, List.setIfInBounds_toArray, List.set_cons_zero, List.set_cons_succ]
        refine wpAnyH_done (by kernel_rfl) ?_ _
        have FZ := Lib.hid ((F.out.trans ((Fr.refl [] wr).drew) (by simp)).trans hG1 (by simp))
        clear hG1 KP D1 hHeld
        go_wp2_with fail
        all_goals
          go_roundg (n - (j + 1))
          case measure => omega
          case rel => exact ⟨j + 1, rfl, by omega, rfl, by rw [SJ2.out]; congr 1; omega, FZ.out⟩
    · have hd : decide (j < n) = false := by rw [decide_eq_false_iff_not]; omega
      obtain rfl : j = n := by omega
      rw [HFU.out]
      go_wp2_with fail
      go_ret
      exact ⟨rfl, F.out⟩
theorem root_node {R : RefD} {q : Nat} (g : GoodP R.pl q) : 0 < R.L.length ∧ (R.L.getD 0 default).lives = true ∧ (R.L.getD 0 default).tp = 0 ∧ R.pl.L.getD 0 default = (R.L.getD 0 default).pi 0 := by
  obtain ⟨x, r, hL, h1, _, _, h4⟩ := g.root
  have hx : x ∈ R.pl.L := by rw [hL]; simp
  obtain ⟨i, hi, hl, rfl⟩ := liveN_mem.1 hx
  have hi0 : i = 0 := by
    have : ((i : Nat) : Int) = 0 := h1
    omega
  subst hi0
  exact ⟨hi, hl, h4, by rw [hL]; rfl⟩
set_option maxHeartbeats 4000000 in
set_option maxRecDepth 100000 in
theorem rtdone_any (rb : Nat) (R : RefD) (w : World) {q : Nat} (h : RefAt w rb R) (gd : GoodP R.pl q) :
    Calls Try.prog 57 #[.pointer (some ⟨rb, 0, none⟩)] w fun e w' => e = .returned (.bool R.pl.done) ∧ Fr [] w w' := by
  obtain ⟨h0, hlv, htp0, hg0⟩ := root_node gd
  obtain ⟨htp, hft⟩ := RefAt.tp gd h0 hlv
  have hfew := h.few
  obtain ⟨g, c, hv, _, _, hc⟩ := h.node h0
  have r2 : w.cell? ⟨rb, 2, none⟩ = some (.slice (some ⟨g, 0, none⟩) R.L.length c) := by rw [← hv]; exact h.head.cell 2
  have r0 : w.cell? ⟨rb, 0, none⟩ = some (.slice R.fa R.Fs.length R.fc) := h.head.cell 0
  obtain ⟨gt, ot, hfa, _, hct⟩ := h.rows.at_ (by omega)
  have hcx := hct 0 (by omega)
  have MK := Lib.hid (h.mks _ (getD_memD R.L 0 h0))
  obtain ⟨x, hx⟩ : ∃ x, R.L.getD 0 default = x := ⟨_, rfl⟩
  rw [hx] at hc MK hft htp0 hg0
  rw [htp0] at hft
  obtain ⟨f, hf⟩ : ∃ f, R.Fs.getD 0 default = f := ⟨_, rfl⟩
  have hfm : f ∈ R.Fs := by rw [← hf]; exact getD_memD _ _ (by omega)
  have hen := h.en f hfm
  rw [hf] at hcx hft
  have x4 : w.cell? ⟨g, 4, none⟩ = some (.slice x.a x.m.length x.c) := by have := hc 4 _ rfl; simpa using this
  have y0 : w.cell? ⟨gt, ot, none⟩ = some (.slice f.ea f.en f.ec) := by have := hcx 0 _ rfl; simpa using this
  have y1 : w.cell? ⟨gt, ot + 1, none⟩ = some (.slice f.ta f.tn f.tc) := by have := hcx 1 _ rfl; simpa using this
  rw [hfa] at r0
  have hmle : x.m.length ≤ 10 := by rw [fits_len hft]; exact hen
  have HDN := Lib.hid (show R.pl.done = (decide (R.pl.L.length = 1) && accB f.en x.m) by
    unfold PT.done
    rw [hg0]
    have : R.pl.Fs.getD 0 default = (R.Fs.getD 0 default).nrm := getD_nrm _ _
    rw [this, hf]
    rfl)
  have C1 := Lib.hid (fun w' (f' : Fr [] w w') => (rlive_any rb R w' (h.fr f')).mono fun e w'' h => h.at_)
  have D1 := Lib.hid (fun w' (f' : Fr [] w w') => racc_any f x.a x.m.length x.c x.m w' (MK.out.fr f') (by omega) (by omega))
  obtain ⟨ba, hba⟩ : ∃ b, accB f.en x.m = b := ⟨_, rfl⟩
  rw [hba] at D1 HDN
  obtain ⟨n, hn⟩ : ∃ n, n = R.L.length := ⟨_, rfl⟩
  obtain ⟨nf, hnf⟩ : ∃ n, n = R.Fs.length := ⟨_, rfl⟩
  rw [← hn] at r2 hfew h0
  rw [← hnf] at r0
  have htn : 0 < nf := by omega
  have dt : decide (0 < nf) = true := decide_eq_true htn
  have dn : decide (0 < n) = true := decide_eq_true h0
  obtain ⟨xa, hxa⟩ : ∃ a, x.a = a := ⟨_, rfl⟩
  obtain ⟨xc, hxc⟩ : ∃ a, x.c = a := ⟨_, rfl⟩
  obtain ⟨ml, hml⟩ : ∃ a, x.m.length = a := ⟨_, rfl⟩
  rw [hxa, hml, hxc] at x4 D1
  have KP := Lib.hid (fun w' (f' : Fr [] w w') => (⟨cell_fr' r0 f', cell_fr' r2 f', cell_fr' x4 f', cell_fr' y0 f', cell_fr' y1 f'⟩ : w'.cell? ⟨rb, 0, none⟩ = some (.slice (some ⟨gt, ot, none⟩) nf R.fc) ∧ w'.cell? ⟨rb, 2, none⟩ = some (.slice (some ⟨g, 0, none⟩) n c) ∧ w'.cell? ⟨g, 4, none⟩ = some (.slice xa ml xc) ∧ w'.cell? ⟨gt, ot, none⟩ = some (.slice f.ea f.en f.ec) ∧ w'.cell? ⟨gt, ot + 1, none⟩ = some (.slice f.ta f.tn f.tc)))
  unfold FlatD.val at D1
  obtain ⟨nl, hnl⟩ : ∃ n, (R.pl.L.map (·.id)).length = n := ⟨_, rfl⟩
  have hnl2 : R.pl.L.length = nl := by rw [← hnl, List.length_map]
  rw [hnl2] at HDN
  unfold Go.Proofs.Ytclkahggfdnpgaa.IntsP at C1
  clear MK hx hc hct hcx hf hfm hv hn hnf hxa hxc hml hba hlv htp0 hg0 htp hft hfa hmle hnl2 h gd
  rw [hnl] at C1
  clear hnl
  by_cases h1 : nl = 1
  · subst h1
    have HD2 := Lib.hid (show R.pl.done = ba by rw [HDN.out]; simp)
    clear HDN
    go_enter Try.func57, Try.ntmps57
    go_wp2_with fail
    refine wp_region_held_drew (S := (fun w' => w'.cell? ⟨rb, 0, none⟩ = some (.slice (some ⟨gt, ot, none⟩) nf R.fc) ∧ w'.cell? ⟨rb, 2, none⟩ = some (.slice (some ⟨g, 0, none⟩) n c) ∧ w'.cell? ⟨g, 4, none⟩ = some (.slice xa ml xc) ∧ w'.cell? ⟨gt, ot, none⟩ = some (.slice f.ea f.en f.ec) ∧ w'.cell? ⟨gt, ot + 1, none⟩ = some (.slice f.ta f.tn f.tc))) (by kernel_rfl) (KP.out _ ((Fr.refl [] w).drew)) (fun hHeld => ?_)
    refine wpAnyH_take (i := 0) (v := ?_) rfl (by kernel_rfl) (by kernel_rfl) (by kernel_rfl) (fun _ _ _ h => h) (Or.inl ⟨rfl, ?_⟩) hHeld ?_
    rotate_left
    · (intro w hSw; (try dsimp only at hSw); go_simp; try (with_reducible rfl))
    simp only [List.getElem_toArray, List.getElem_cons_succ, List.getElem_cons_zero, Act.put, List.setIfInBounds_toArray, List.set_cons_zero, List.set_cons_succ]
    refine wpAnyH_ready (rs := [1]) (by kernel_rfl) (by simp) ?_
    refine AllReadyH.cons rfl (fun K hK => ?_) AllReadyH.nil
    simp only [List.getElem_toArray, List.getElem_cons_succ, List.getElem_cons_zero]
    go_simp
    go_wp2_with (first | (go_at_call 49; refine (C1.out _ ((Fr.refl [] w).drew)).mono ?_; rintro e v1 ⟨al, cl, rfl, _, _, hG1⟩))
    refine hK.out _ _ (by first | (exact KP.out _ (((Fr.refl [] w).drew).trans hG1 (by simp))) | go_keep) (fun hHeld => ?_)
    clear hK K
    refine wpAnyH_take (i := 2) (v := ?_) rfl (by kernel_rfl) (by kernel_rfl) (by kernel_rfl) (fun _ _ _ h => h) (Or.inl ⟨rfl, ?_⟩) hHeld ?_
    rotate_left
    · (intro w hSw; (try dsimp only at hSw); go_simp; try (with_reducible rfl))
    simp only [List.getElem_toArray, List.getElem_cons_succ, List.getElem_cons_zero, Act.put, List.setIfInBounds_toArray, List.set_cons_zero, List.set_cons_succ]
    refine wpAnyH_take (i := 3) (v := ?_) rfl (by kernel_rfl) (by kernel_rfl) (by kernel_rfl) (fun _ _ _ h => h) (Or.inl ⟨rfl, ?_⟩) hHeld ?_
    rotate_left
    · (intro w hSw; (try dsimp only at hSw); go_simp; try (with_reducible rfl))
    simp only [List.getElem_toArray, List.getElem_cons_succ, List.getElem_cons_zero, Act.put, List.setIfInBounds_toArray, List.set_cons_zero, List.set_cons_succ]
    refine wpAnyH_take (i := 4) (v := ?_) rfl (by kernel_rfl) (by kernel_rfl) (by kernel_rfl) (fun _ _ _ h => h) (Or.inl ⟨rfl, ?_⟩) hHeld ?_
    rotate_left
    · (intro w hSw; (try dsimp only at hSw); go_simp; try (with_reducible rfl))
    simp only [List.getElem_toArray, List.getElem_cons_succ, List.getElem_cons_zero, Act.put, List.setIfInBounds_toArray, List.set_cons_zero, List.set_cons_succ]
    refine wpAnyH_take (i := 5) (v := ?_) rfl (by kernel_rfl) (by kernel_rfl) (by kernel_rfl) (fun _ _ _ h => h) (Or.inl ⟨rfl, ?_⟩) hHeld ?_
    rotate_left
    · (intro w hSw; (try dsimp only at hSw); go_simp; try (with_reducible rfl))
    simp only [List.getElem_toArray, List.getElem_cons_succ, List.getElem_cons_zero, Act.put, List.setIfInBounds_toArray, List.set_cons_zero, List.set_cons_succ]
    refine wpAnyH_take (i := 6) (v := ?_) rfl (by kernel_rfl) (by kernel_rfl) (by kernel_rfl) (fun _ _ _ h => h) (Or.inl ⟨rfl, ?_⟩) hHeld ?_
    rotate_left
    · (intro w hSw; (try dsimp only at hSw); go_simp; try (with_reducible rfl))
    simp only [List.getElem_toArray, List.getElem_cons_succ, List.getElem_cons_zero, Act.put, List.setIfInBounds_toArray, List.set_cons_zero, List.set_cons_succ]
    refine wpAnyH_take (i := 7) (v := ?_) rfl (by kernel_rfl) (by kernel_rfl) (by kernel_rfl) (fun _ _ _ h => h) (Or.inl ⟨rfl, ?_⟩) hHeld ?_
    rotate_left
    · (intro w hSw; (try dsimp only at hSw); go_simp; try (with_reducible rfl))
    simp only [List.getElem_toArray, List.getElem_cons_succ, List.getElem_cons_zero, Act.put, List.setIfInBounds_toArray, List.set_cons_zero, List.set_cons_succ]
    refine wpAnyH_take (i := 8) (v := ?_) rfl (by kernel_rfl) (by kernel_rfl) (by kernel_rfl) (fun _ _ _ h => h) (Or.inl ⟨rfl, ?_⟩) hHeld ?_
    rotate_left
    · (intro w hSw; (try dsimp only at hSw); go_simp; try (with_reducible rfl))
    simp only [List.getElem_toArray, List.getElem_cons_succ, List.getElem_cons_zero, Act.put, List.setIfInBounds_toArray, List.set_cons_zero, List.set_cons_succ]
    refine wpAnyH_take (i := 9) (v := ?_) rfl (by kernel_rfl) (by kernel_rfl) (by kernel_rfl) (fun _ _ _ h => h) (Or.inl ⟨rfl, ?_⟩) hHeld ?_
    rotate_left
    · (intro w hSw; (try dsimp only at hSw); go_simp; try (with_reducible rfl))
    simp only [List.getElem_toArray, List.getElem_cons_succ, List.getElem_cons_zero, Act.put, List.setIfInBounds_toArray, List.set_cons_zero, List.set_cons_succ]
    refine wpAnyH_take (i := 10) (v := ?_) rfl (by kernel_rfl) (by kernel_rfl) (by kernel_rfl) (fun _ _ _ h => h) (Or.inl ⟨rfl, ?_⟩) hHeld ?_
    rotate_left
    · (intro w hSw; (try dsimp only at hSw); go_simp; try (with_reducible rfl))
    simp only [List.getElem_toArray, List.getElem_cons_succ, List.getElem_cons_zero, Act.put, List.setIfInBounds_toArray, List.set_cons_zero, List.set_cons_succ]
    refine wpAnyH_take (i := 11) (v := ?_) rfl (by kernel_rfl) (by kernel_rfl) (by kernel_rfl) (fun _ _ _ h => h) (Or.inl ⟨rfl, ?_⟩) hHeld ?_
    rotate_left
    · (intro w hSw; (try dsimp only at hSw); go_simp; try (with_reducible rfl))
    simp only [List.getElem_toArray, List.getElem_cons_succ, List.getElem_cons_zero, Act.put, List.setIfInBounds_toArray, List.set_cons_zero, List.set_cons_succ]
    refine wpAnyH_take (i := 12) (v := ?_) rfl (by kernel_rfl) (by kernel_rfl) (by kernel_rfl) (fun _ _ _ h => h) (Or.inl ⟨rfl, ?_⟩) hHeld ?_
    rotate_left
    · (intro w hSw; (try dsimp only at hSw); go_simp; try (with_reducible rfl))
    simp only [List.getElem_toArray, List.getElem_cons_succ, List.getElem_cons_zero, Act.put, List.setIfInBounds_toArray, List.set_cons_zero, List.set_cons_succ]
    refine wpAnyH_take (i := 13) (v := ?_) rfl (by kernel_rfl) (by kernel_rfl) (by kernel_rfl) (fun _ _ _ h => h) (Or.inl ⟨rfl, ?_⟩) hHeld ?_
    rotate_left
    · (intro w hSw; (try dsimp only at hSw); go_simp; try (with_reducible rfl))
    simp only [List.getElem_toArray, List.getElem_cons_succ, List.getElem_cons_zero, Act.put, List.setIfInBounds_toArray, List.set_cons_zero, List.set_cons_succ]
    refine wpAnyH_take (i := 14) (v := ?_) rfl (by kernel_rfl) (by kernel_rfl) (by kernel_rfl) (fun _ _ _ h => h) (Or.inl ⟨rfl, ?_⟩) hHeld ?_
    rotate_left
    · (intro w hSw; (try dsimp only at hSw); go_simp; try (with_reducible rfl))
    simp only [List.getElem_toArray, List.getElem_cons_succ, List.getElem_cons_zero, Act.put, List.setIfInBounds_toArray, List.set_cons_zero, List.set_cons_succ]
    refine wpAnyH_take (i := 15) (v := ?_) rfl (by kernel_rfl) (by kernel_rfl) (by kernel_rfl) (fun _ _ _ h => h) (Or.inl ⟨rfl, ?_⟩) hHeld ?_
    rotate_left
    · (intro w hSw; (try dsimp only at hSw); go_simp; try (with_reducible rfl))
    simp only [List.getElem_toArray, List.getElem_cons_succ, List.getElem_cons_zero, Act.put, List.setIfInBounds_toArray, List.set_cons_zero, List.set_cons_succ]
    refine wpAnyH_take (i := 16) (v := ?_) rfl (by kernel_rfl) (by kernel_rfl) (by kernel_rfl) (fun _ _ _ h => h) (Or.inl ⟨rfl, ?_⟩) hHeld ?_
    rotate_left
    · (intro w hSw; (try dsimp only at hSw); go_simp; try (with_reducible rfl))
    simp only [List.getElem_toArray, List.getElem_cons_succ, List.getElem_cons_zero, Act.put, List.setIfInBounds_toArray, List.set_cons_zero, List.set_cons_succ]
    refine wpAnyH_take (i := 17) (v := ?_) rfl (by kernel_rfl) (by kernel_rfl) (by kernel_rfl) (fun _ _ _ h => h) (Or.inl ⟨rfl, ?_⟩) hHeld ?_
    rotate_left
    · (intro w hSw; (try dsimp only at hSw); go_simp; try (with_reducible rfl))
    simp only [List.getElem_toArray, List.getElem_cons_succ, List.getElem_cons_zero, Act.put, List.setIfInBounds_toArray, List.set_cons_zero, List.set_cons_succ]
    refine wpAnyH_ready (rs := [18]) (by kernel_rfl) (by simp) ?_
    refine AllReadyH.cons rfl (fun K hK => ?_) AllReadyH.nil
    simp only [List.getElem_toArray, List.getElem_cons_succ, List.getElem_cons_zero]
    go_simp
    go_wp2_with (first | (go_at_call 25; refine (D1.out _ (((Fr.refl [] w).drew).trans hG1 (by simp))).mono ?_; rintro e v2 ⟨rfl, hG2⟩))
    refine hK.out _ _ (by first | (exact KP.out _ ((((Fr.refl [] w).drew).trans hG1 (by simp)).trans hG2 (by simp))) | go_keep) (fun hHeld => ?_)
    clear hK K
    refine wpAnyH_take (i := 19) (v := ?_) rfl (by kernel_rfl) (by kernel_rfl) (by kernel_rfl) (fun _ _ _ h => h) (Or.inl ⟨rfl, ?_⟩) hHeld ?_
    rotate_left
    · (intro w hSw; (try dsimp only at hSw); go_simp; try (with_reducible rfl))
    simp only [List.getElem_toArray, List.getElem_cons_succ, List.getElem_cons_zero, Act.put, List.setIfInBounds_toArray, List.set_cons_zero, List.set_cons_succ]
    refine wpAnyH_take (i := 20) (v := ?_) rfl (by kernel_rfl) (by kernel_rfl) (by kernel_rfl) (fun _ _ _ h => h) (Or.inl ⟨rfl, ?_⟩) hHeld ?_
    rotate_left
    · (intro w hSw; (try dsimp only at hSw); go_simp; try (with_reducible rfl))
    simp only [List.getElem_toArray, List.getElem_cons_succ, List.getElem_cons_zero, Act.put, List.setIfInBounds_toArray, List.set_cons_zero, List.set_cons_succ]
    refine wpAnyH_done (by kernel_rfl) ?_ _
    have FZ := Lib.hid (((((Fr.refl [] w).drew).trans hG1 (by simp)).trans hG2 (by simp)))
    clear hG1 hG2 hHeld KP D1 C1
    go_wp2_with fail
    go_ret
    exact ⟨ret_bool HD2.out.symm, FZ.out⟩
  · have b1 : ((nl : Int) == 1) = false := by rw [beq_eq_false_iff_ne]; omega
    have HD2 := Lib.hid (show R.pl.done = false by rw [HDN.out, decide_eq_false h1]; simp)
    clear HDN h1
    go_enter Try.func57, Try.ntmps57
    go_wp2_with fail
    refine wp_region_held_drew (S := (fun w' => w'.cell? ⟨rb, 0, none⟩ = some (.slice (some ⟨gt, ot, none⟩) nf R.fc) ∧ w'.cell? ⟨rb, 2, none⟩ = some (.slice (some ⟨g, 0, none⟩) n c) ∧ w'.cell? ⟨g, 4, none⟩ = some (.slice xa ml xc) ∧ w'.cell? ⟨gt, ot, none⟩ = some (.slice f.ea f.en f.ec) ∧ w'.cell? ⟨gt, ot + 1, none⟩ = some (.slice f.ta f.tn f.tc))) (by kernel_rfl) (KP.out _ ((Fr.refl [] w).drew)) (fun hHeld => ?_)
    refine wpAnyH_take (i := 0) (v := ?_) rfl (by kernel_rfl) (by kernel_rfl) (by kernel_rfl) (fun _ _ _ h => h) (Or.inl ⟨rfl, ?_⟩) hHeld ?_
    rotate_left
    · (intro w hSw; (try dsimp only at hSw); go_simp; try (with_reducible rfl))
    simp only [List.getElem_toArray, List.getElem_cons_succ, List.getElem_cons_zero, Act.put, List.setIfInBounds_toArray, List.set_cons_zero, List.set_cons_succ]
    refine wpAnyH_ready (rs := [1]) (by kernel_rfl) (by simp) ?_
    refine AllReadyH.cons rfl (fun K hK => ?_) AllReadyH.nil
    simp only [List.getElem_toArray, List.getElem_cons_succ, List.getElem_cons_zero]
    go_simp
    go_wp2_with (first | (go_at_call 49; refine (C1.out _ ((Fr.refl [] w).drew)).mono ?_; rintro e v1 ⟨al, cl, rfl, _, _, hG1⟩))
    refine hK.out _ _ (by first | (exact KP.out _ (((Fr.refl [] w).drew).trans hG1 (by simp))) | go_keep) (fun hHeld => ?_)
    clear hK K
    refine wpAnyH_take (i := 2) (v := ?_) rfl (by kernel_rfl) (by kernel_rfl) (by kernel_rfl) (fun _ _ _ h => h) (Or.inl ⟨rfl, ?_⟩) hHeld ?_
    rotate_left
    · (intro w hSw; (try dsimp only at hSw); go_simp; try (with_reducible rfl))
    simp only [List.getElem_toArray, List.getElem_cons_succ, List.getElem_cons_zero, Act.put, List.setIfInBounds_toArray, List.set_cons_zero, List.set_cons_succ]
    refine wpAnyH_take (i := 3) (v := ?_) rfl (by kernel_rfl) (by kernel_rfl) (by kernel_rfl) (fun _ _ _ h => h) (Or.inl ⟨rfl, ?_⟩) hHeld ?_
    rotate_left
    · (intro w hSw; (try dsimp only at hSw); go_simp; try (with_reducible rfl))
    simp only [List.getElem_toArray, List.getElem_cons_succ, List.getElem_cons_zero, Act.put, List.setIfInBounds_toArray, List.set_cons_zero, List.set_cons_succ]
    refine wpAnyH_take (i := 4) (v := ?_) rfl (by kernel_rfl) (by kernel_rfl) (by kernel_rfl) (fun _ _ _ h => h) (Or.inl ⟨rfl, ?_⟩) hHeld ?_
    rotate_left
    · (intro w hSw; (try dsimp only at hSw); go_simp; try (with_reducible rfl))
    simp only [List.getElem_toArray, List.getElem_cons_succ, List.getElem_cons_zero, Act.put, List.setIfInBounds_toArray, List.set_cons_zero, List.set_cons_succ]
    refine wpAnyH_take (i := 5) (v := undef) rfl (by kernel_rfl) (by kernel_rfl) (by kernel_rfl) (fun _ _ _ h => h) (Or.inr ⟨rfl, rfl⟩) hHeld ?_
    simp only [List.getElem_toArray, List.getElem_cons_succ, List.getElem_cons_zero, Act.put, List.setIfInBounds_toArray, List.set_cons_zero, List.set_cons_succ]
    refine wpAnyH_take (i := 6) (v := undef) rfl (by kernel_rfl) (by kernel_rfl) (by kernel_rfl) (fun _ _ _ h => h) (Or.inr ⟨rfl, rfl⟩) hHeld ?_
    simp only [List.getElem_toArray, List.getElem_cons_succ, List.getElem_cons_zero, Act.put, List.setIfInBounds_toArray, List.set_cons_zero, List.set_cons_succ]
    refine wpAnyH_take (i := 7) (v := undef) rfl (by kernel_rfl) (by kernel_rfl) (by kernel_rfl) (fun _ _ _ h => h) (Or.inr ⟨rfl, rfl⟩) hHeld ?_
    simp only [List.getElem_toArray, List.getElem_cons_succ, List.getElem_cons_zero, Act.put, List.setIfInBounds_toArray, List.set_cons_zero, List.set_cons_succ]
    refine wpAnyH_take (i := 8) (v := undef) rfl (by kernel_rfl) (by kernel_rfl) (by kernel_rfl) (fun _ _ _ h => h) (Or.inr ⟨rfl, rfl⟩) hHeld ?_
    simp only [List.getElem_toArray, List.getElem_cons_succ, List.getElem_cons_zero, Act.put, List.setIfInBounds_toArray, List.set_cons_zero, List.set_cons_succ]
    refine wpAnyH_take (i := 9) (v := undef) rfl (by kernel_rfl) (by kernel_rfl) (by kernel_rfl) (fun _ _ _ h => h) (Or.inr ⟨rfl, rfl⟩) hHeld ?_
    simp only [List.getElem_toArray, List.getElem_cons_succ, List.getElem_cons_zero, Act.put, List.setIfInBounds_toArray, List.set_cons_zero, List.set_cons_succ]
    refine wpAnyH_take (i := 10) (v := undef) rfl (by kernel_rfl) (by kernel_rfl) (by kernel_rfl) (fun _ _ _ h => h) (Or.inr ⟨rfl, rfl⟩) hHeld ?_
    simp only [List.getElem_toArray, List.getElem_cons_succ, List.getElem_cons_zero, Act.put, List.setIfInBounds_toArray, List.set_cons_zero, List.set_cons_succ]
    refine wpAnyH_take (i := 11) (v := undef) rfl (by kernel_rfl) (by kernel_rfl) (by kernel_rfl) (fun _ _ _ h => h) (Or.inr ⟨rfl, rfl⟩) hHeld ?_
    simp only [List.getElem_toArray, List.getElem_cons_succ, List.getElem_cons_zero, Act.put, List.setIfInBounds_toArray, List.set_cons_zero, List.set_cons_succ]
    refine wpAnyH_take (i := 12) (v := undef) rfl (by kernel_rfl) (by kernel_rfl) (by kernel_rfl) (fun _ _ _ h => h) (Or.inr ⟨rfl, rfl⟩) hHeld ?_
    simp only [List.getElem_toArray, List.getElem_cons_succ, List.getElem_cons_zero, Act.put, List.setIfInBounds_toArray, List.set_cons_zero, List.set_cons_succ]
    refine wpAnyH_take (i := 13) (v := undef) rfl (by kernel_rfl) (by kernel_rfl) (by kernel_rfl) (fun _ _ _ h => h) (Or.inr ⟨rfl, rfl⟩) hHeld ?_
    simp only [List.getElem_toArray, List.getElem_cons_succ, List.getElem_cons_zero, Act.put, List.setIfInBounds_toArray, List.set_cons_zero, List.set_cons_succ]
    refine wpAnyH_take (i := 14) (v := undef) rfl (by kernel_rfl) (by kernel_rfl) (by kernel_rfl) (fun _ _ _ h => h) (Or.inr ⟨rfl, rfl⟩) hHeld ?_
    simp only [List.getElem_toArray, List.getElem_cons_succ, List.getElem_cons_zero, Act.put, List.setIfInBounds_toArray, List.set_cons_zero, List.set_cons_succ]
    refine wpAnyH_take (i := 15) (v := undef) rfl (by kernel_rfl) (by kernel_rfl) (by kernel_rfl) (fun _ _ _ h => h) (Or.inr ⟨rfl, rfl⟩) hHeld ?_
    simp only [List.getElem_toArray, List.getElem_cons_succ, List.getElem_cons_zero, Act.put, List.setIfInBounds_toArray, List.set_cons_zero, List.set_cons_succ]
    refine wpAnyH_take (i := 16) (v := undef) rfl (by kernel_rfl) (by kernel_rfl) (by kernel_rfl) (fun _ _ _ h => h) (Or.inr ⟨rfl, rfl⟩) hHeld ?_
    simp only [List.getElem_toArray, List.getElem_cons_succ, List.getElem_cons_zero, Act.put, List.setIfInBounds_toArray, List.set_cons_zero, List.set_cons_succ]
    refine wpAnyH_take (i := 17) (v := undef) rfl (by kernel_rfl) (by kernel_rfl) (by kernel_rfl) (fun _ _ _ h => h) (Or.inr ⟨rfl, rfl⟩) hHeld ?_
    simp only [List.getElem_toArray, List.getElem_cons_succ, List.getElem_cons_zero, Act.put, List.setIfInBounds_toArray, List.set_cons_zero, List.set_cons_succ]
    refine wpAnyH_take (i := 18) (v := undef) rfl (by kernel_rfl) (by kernel_rfl) (by kernel_rfl) (fun _ _ _ h => h) (Or.inr ⟨rfl, rfl⟩) hHeld ?_
    simp only [List.getElem_toArray, List.getElem_cons_succ, List.getElem_cons_zero, Act.put, List.setIfInBounds_toArray, List.set_cons_zero, List.set_cons_succ]
    refine wpAnyH_take (i := 19) (v := ?_) rfl (by kernel_rfl) (by kernel_rfl) (by kernel_rfl) (fun _ _ _ h => h) (Or.inl ⟨rfl, ?_⟩) hHeld ?_
    rotate_left
    · (intro w hSw; (try dsimp only at hSw); go_simp; try (with_reducible rfl))
    simp only [List.getElem_toArray, List.getElem_cons_succ, List.getElem_cons_zero, Act.put, List.setIfInBounds_toArray, List.set_cons_zero, List.set_cons_succ]
    refine wpAnyH_take (i := 20) (v := ?_) rfl (by kernel_rfl) (by kernel_rfl) (by kernel_rfl) (fun _ _ _ h => h) (Or.inl ⟨rfl, ?_⟩) hHeld ?_
    rotate_left
    · (intro w hSw; (try dsimp only at hSw); go_simp; try (with_reducible rfl))
    simp only [List.getElem_toArray, List.getElem_cons_succ, List.getElem_cons_zero, Act.put, List.setIfInBounds_toArray, List.set_cons_zero, List.set_cons_succ]
    refine wpAnyH_done (by kernel_rfl) ?_ _
    have FZ := Lib.hid (((Fr.refl [] w).drew).trans hG1 (by simp))
    clear hG1 hHeld KP D1 C1
    go_wp2_with fail
    go_ret
    exact ⟨ret_bool HD2.out.symm, FZ.out⟩
end Go.Proofs.Ytclkahggfdnpgaa

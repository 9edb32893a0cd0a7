/- Parts of the proof: Rt9. (Merged by pack.py.) -/
import Derived.Test.YtclkahggfdnpgaaDz24
set_option linter.unusedVariables false
set_option linter.unusedSimpArgs false
namespace Go.Proofs.Ytclkahggfdnpgaa
open Go.RowKit
theorem rnd_one (x : RND) : ∀ v ∈ x.cells, v.oneCell' = true := by
  intro v hv
  unfold RND.cells at hv
  simp at hv
  rcases hv with rfl | rfl | rfl | rfl | rfl <;> rfl
theorem agg117 (w : World) : (isAgg 117).run Try.prog w = .ok true w := by kernel_rfl
theorem size117 : (Try.prog.info? 117).map (·.size) = some 4 := by kernel_rfl
theorem zero117 : (Try.prog.info? 117).map (fun i => (i.size, i.zero.map (·.cells.size))) = some (4, some 4) := by kernel_rfl
set_option maxHeartbeats 8000000 in
set_option maxRecDepth 100000 in
theorem rtdo_any (rb : Nat) (R : RefD) (id at' : Int) (w : World) {q : Nat} (h : RefAt w rb R) (gd : GoodP R.pl q) (hq : q ≤ 890) (hu : UniqC R.Cs) (hc20 : R.Cs.length ≤ 20) :
    Calls Try.prog 42 #[.pointer (some ⟨rb, 0, none⟩), .int .i64 id, .int .i64 at'] w (RDoP rb R id at' w) := by
  have C1 := rlives_any rb R id w h
  have HH := Lib.hid h
  have HG := Lib.hid gd
  by_cases hl : livesB R.L id = true
  rotate_left
  · have hl : livesB R.L id = false := by simpa using hl
    rw [hl] at C1
    have E1 := Lib.hid (doF_none (P := R.pl) (at' := at') (ref_of_none hl))
    clear h gd hl hu
    go_enter Try.func42, Try.ntmps42
    go_wp2_with fail
    refine C1.mono ?_
    rintro e w1 ⟨rfl, hF⟩
    have F1 := Lib.hid hF
    clear hF C1
    go_wp2_with fail
    go_ret2
    exact ⟨R, by rw [E1.out]; rfl, by rw [E1.out], .refl HH.out F1.out⟩
  rw [hl] at C1
  have ho := ref_of hl
  obtain ⟨k, rfl, hk, hlv⟩ := lives_at hl
  rw [Int.toNat_natCast] at ho
  obtain ⟨htp, hft⟩ := RefAt.tp gd hk hlv
  have hxf : R.pl.f ((R.L.getD k default).pi k) = (R.Fs.getD (R.L.getD k default).tp default).nrm := getD_nrm _ _
  have MKX := Lib.hid (h.mks _ (getD_memD R.L k hk))
  obtain ⟨g, c, hv, _, _, hcx⟩ := h.node hk
  have r2 : w.cell? ⟨rb, 2, none⟩ = some (.slice (some ⟨g, 0, none⟩) R.L.length c) := by rw [← hv]; exact h.head.cell 2
  have r0 : w.cell? ⟨rb, 0, none⟩ = some (.slice R.fa R.Fs.length R.fc) := h.head.cell 0
  have r1 : w.cell? ⟨rb, 1, none⟩ = some (.slice R.ca R.Cs.length R.cc) := h.head.cell 1
  obtain ⟨gt, ot, hfa, _, hct⟩ := h.rows.at_ (by omega)
  rw [hfa] at r0
  have hcf := hct _ htp
  have HCT := Lib.hid (fun i (hi : i < R.Fs.length) => hct i hi)
  obtain ⟨x, hx⟩ : ∃ x, R.L.getD k default = x := ⟨_, rfl⟩
  have HXE := Lib.hid hx
  have HV := Lib.hid hv
  rw [hx] at hcx hlv htp hft MKX hcf hxf ho
  obtain ⟨f, hf⟩ : ∃ f, R.Fs.getD x.tp default = f := ⟨_, rfl⟩
  have hfm : f ∈ R.Fs := by rw [← hf]; exact getD_memD _ _ htp
  have hen := h.en f hfm
  have FX := Lib.hid (h.flats f hfm)
  rw [hf] at hcf hft hxf
  have hxl : x.m.length ≤ 10 := by rw [fits_len hft]; exact hen
  have hfew := h.few
  have hnx : R.L.length ≤ 890 := Nat.le_trans gd.next hq
  have ND := Lib.hid (fun i (hi : i < R.L.length) => (by
    obtain ⟨g2, c2, hv2, _, _, hc2⟩ := h.node hi
    rw [hv] at hv2
    cases hv2
    exact hc2 : ∀ j v, (R.L.getD i default).cells[j]? = some v → w.cell? ⟨g, i * 5 + j, none⟩ = some v))
  have OF := Lib.hid ho
  have XF := Lib.hid hxf
  have FT := Lib.hid hft
  have HU := Lib.hid hu
  obtain ⟨n, hn⟩ : ∃ n, n = R.L.length := ⟨_, rfl⟩
  obtain ⟨nf, hnf⟩ : ∃ n, n = R.Fs.length := ⟨_, rfl⟩
  obtain ⟨nc, hnc⟩ : ∃ n, n = R.Cs.length := ⟨_, rfl⟩
  rw [← hn] at r2 hk hfew hnx ND
  rw [← hnf] at r0 htp HCT
  rw [← hnc] at r1 hc20
  have HN := Lib.hid hn
  have HNF := Lib.hid hnf
  have HNC := Lib.hid hnc
  have HCX : Hid (∀ k' v, ([.bool true, .int .i64 x.tp, .int .i64 x.par, .int .i64 x.ev, .slice x.a x.m.length x.c] : List Value)[k']? = some v → w.cell? ⟨g, k * 5 + k', none⟩ = some v) := Lib.hid (by
    intro k' v hk'
    apply hcx k' v
    unfold RND.cells
    rw [hlv]
    exact hk')
  have y0 : w.cell? ⟨gt, ot + x.tp * 2, none⟩ = some (.slice f.ea f.en f.ec) := hcf 0 _ rfl
  have y1 : w.cell? ⟨gt, ot + x.tp * 2 + 1, none⟩ = some (.slice f.ta f.tn f.tc) := hcf 1 _ rfl
  have RR := Lib.hid (⟨r0, r1, r2, y0, y1⟩ : w.cell? ⟨rb, 0, none⟩ = some (.slice (some ⟨gt, ot, none⟩) nf R.fc) ∧ w.cell? ⟨rb, 1, none⟩ = some (.slice R.ca nc R.cc) ∧ w.cell? ⟨rb, 2, none⟩ = some (.slice (some ⟨g, 0, none⟩) n c) ∧ w.cell? ⟨gt, ot + x.tp * 2, none⟩ = some (.slice f.ea f.en f.ec) ∧ w.cell? ⟨gt, ot + x.tp * 2 + 1, none⟩ = some (.slice f.ta f.tn f.tc))
  have dk : decide (k < n) = true := decide_eq_true hk
  have dt : decide (x.tp < nf) = true := decide_eq_true htp
  clear h gd hl ho hlv hcx hv hfa hct hcf hx hf hfm hn hnf hnc y0 y1 hft r0 r1 r2 hu hxf
  go_enter Try.func42, Try.ntmps42
  go_wp2_with fail
  refine C1.mono ?_
  rintro e w1 ⟨rfl, hF⟩
  have F2 := Lib.hid hF
  have HC2 := Lib.hid (fun k' v hk' => cell_fr' (HCX.out k' v hk') F2.out)
  have r2 := cell_fr' RR.out.2.2.1 F2.out
  clear hF C1
  go_wp2_with (first | ((with_reducible refine wpList_load_at rfl 125 (.tmp 22) rfl agg125 5 size125 g (k * 5) [.bool true, .int .i64 x.tp, .int .i64 x.par, .int .i64 x.ev, .slice x.a x.m.length x.c] rfl HC2.out ?_ ?_); exact rfl) | ((with_reducible refine wpList_var_agg rfl rfl 125 (.tmp 8) (.tmp 23) rfl rfl 5 zero125 [.bool true, .int .i64 x.tp, .int .i64 x.par, .int .i64 x.ev, .slice x.a x.m.length x.c] rfl ?_ ?_ ?_ ?_); (intro u hu; simp at hu; rcases hu with rfl | rfl | rfl | rfl | rfl <;> rfl); exact rfl; exact rfl))
  intro w4 hr4 hs4 hf4
  have F4 := Lib.hid (F2.out.trans hf4 (by simp))
  obtain ⟨x8, hx8⟩ : ∃ b, w1.heap.size = b := ⟨_, rfl⟩
  rw [hx8] at hr4 ⊢
  have X1 := Lib.hid (hr4.cell 1)
  have X4 := Lib.hid (hr4.cell 4)
  have D4 := Lib.hid (fun w' (g' : Fr [] w4 w') => rdo_fresh f x.a x.m.length x.c x.m at' w' ((FX.out.fr F4.out).fr g') ((MKX.out.fr F4.out).fr g') (by omega))
  have KP := Lib.hid (fun w' (f' : Fr [] w4 w') => (⟨cell_fr' (cell_fr' RR.out.1 F4.out) f', cell_fr' X1.out f', cell_fr' X4.out f', cell_fr' (cell_fr' RR.out.2.2.2.1 F4.out) f', cell_fr' (cell_fr' RR.out.2.2.2.2 F4.out) f'⟩ : w'.cell? ⟨rb, 0, none⟩ = some (.slice (some ⟨gt, ot, none⟩) nf R.fc) ∧ w'.cell? ⟨x8, 1, none⟩ = some (.int .i64 x.tp) ∧ w'.cell? ⟨x8, 4, none⟩ = some (.slice x.a x.m.length x.c) ∧ w'.cell? ⟨gt, ot + x.tp * 2, none⟩ = some (.slice f.ea f.en f.ec) ∧ w'.cell? ⟨gt, ot + x.tp * 2 + 1, none⟩ = some (.slice f.ta f.tn f.tc)))
  clear hr4 hs4 hf4 hx8 r2
  by_cases hE : doE f x.m at' = 0
  rotate_left
  · obtain ⟨E, hEE⟩ : ∃ E, doE f x.m at' = E := ⟨_, rfl⟩
    have E2 := Lib.hid (show doF R.pl (k : Int) at' = (0, E, R.pl) by
      have := doF_err (at' := at') OF.out (by rw [XF.out]; exact FT.out) (by rw [XF.out]; exact hE)
      rw [XF.out] at this
      rw [this]
      rw [show doE f.nrm (x.pi k).m at' = E from hEE])
    rw [hEE] at hE D4
    have HE := Lib.hid hE
    have D5 := Lib.hid (fun w' (g' : Fr [] w4 w') => (D4.out w' g').mono fun e w'' h => nextF_bad HE.out h)
    have gE : (E != 0) = true := by simpa using hE
    unfold FlatD.val at D5
    clear hEE hE D4
    go_wp2_with fail
    refine wp_region_held_drew (S := (fun w' => w'.cell? ⟨rb, 0, none⟩ = some (.slice (some ⟨gt, ot, none⟩) nf R.fc) ∧ w'.cell? ⟨x8, 1, none⟩ = some (.int .i64 x.tp) ∧ w'.cell? ⟨x8, 4, none⟩ = some (.slice x.a x.m.length x.c) ∧ w'.cell? ⟨gt, ot + x.tp * 2, none⟩ = some (.slice f.ea f.en f.ec) ∧ w'.cell? ⟨gt, ot + x.tp * 2 + 1, none⟩ = some (.slice f.ta f.tn f.tc))) (by kernel_rfl) (KP.out _ ((Fr.refl [] w4).drew)) (fun hHeld => ?_)
    refine wpAnyH_take (i := 0) (v := ?_) rfl (by kernel_rfl) (by kernel_rfl) (by kernel_rfl) (fun _ _ _ h => h) (Or.inl ⟨rfl, ?_⟩) hHeld ?_
    rotate_left
    · (intro w hSw; (try dsimp only at hSw); go_simp; try (with_reducible rfl))
    simp only [List.getElem_toArray, List.getElem_cons_succ, List.getElem_cons_zero, Act.put, List.setIfInBounds_toArray, List.set_cons_zero, List.set_cons_succ]
    refine wpAnyH_take (i := 1) (v := ?_) rfl (by kernel_rfl) (by kernel_rfl) (by kernel_rfl) (fun _ _ _ h => h) (Or.inl ⟨rfl, ?_⟩) hHeld ?_
    rotate_left
    · (intro w hSw; (try dsimp only at hSw); go_simp; try (with_reducible rfl))
    simp only [List.getElem_toArray, List.getElem_cons_succ, List.getElem_cons_zero, Act.put, List.setIfInBounds_toArray, List.set_cons_zero, List.set_cons_succ]
    refine wpAnyH_take (i := 2) (v := ?_) rfl (by kernel_rfl) (by kernel_rfl) (by kernel_rfl) (fun _ _ _ h => h) (Or.inl ⟨rfl, ?_⟩) hHeld ?_
    rotate_left
    · (intro w hSw; (try dsimp only at hSw); go_simp; try (with_reducible rfl))
    simp only [List.getElem_toArray, List.getElem_cons_succ, List.getElem_cons_zero, Act.put, List.setIfInBounds_toArray, List.set_cons_zero, List.set_cons_succ]
    refine wpAnyH_take (i := 3) (v := ?_) rfl (by kernel_rfl) (by kernel_rfl) (by kernel_rfl) (fun _ _ _ h => h) (Or.inl ⟨rfl, ?_⟩) hHeld ?_
    rotate_left
    · (intro w hSw; (try dsimp only at hSw); go_simp; try (with_reducible rfl))
    simp only [List.getElem_toArray, List.getElem_cons_succ, List.getElem_cons_zero, Act.put, List.setIfInBounds_toArray, List.set_cons_zero, List.set_cons_succ]
    refine wpAnyH_take (i := 4) (v := ?_) rfl (by kernel_rfl) (by kernel_rfl) (by kernel_rfl) (fun _ _ _ h => h) (Or.inl ⟨rfl, ?_⟩) hHeld ?_
    rotate_left
    · (intro w hSw; (try dsimp only at hSw); go_simp; try (with_reducible rfl))
    simp only [List.getElem_toArray, List.getElem_cons_succ, List.getElem_cons_zero, Act.put, List.setIfInBounds_toArray, List.set_cons_zero, List.set_cons_succ]
    refine wpAnyH_take (i := 5) (v := ?_) rfl (by kernel_rfl) (by kernel_rfl) (by kernel_rfl) (fun _ _ _ h => h) (Or.inl ⟨rfl, ?_⟩) hHeld ?_
    rotate_left
    · (intro w hSw; (try dsimp only at hSw); go_simp; try (with_reducible rfl))
    simp only [List.getElem_toArray, List.getElem_cons_succ, List.getElem_cons_zero, Act.put, List.setIfInBounds_toArray, List.set_cons_zero, List.set_cons_succ]
    refine wpAnyH_take (i := 6) (v := ?_) rfl (by kernel_rfl) (by kernel_rfl) (by kernel_rfl) (fun _ _ _ h => h) (Or.inl ⟨rfl, ?_⟩) hHeld ?_
    rotate_left
    · (intro w hSw; (try dsimp only at hSw); go_simp; try (with_reducible rfl))
    simp only [List.getElem_toArray, List.getElem_cons_succ, List.getElem_cons_zero, Act.put, List.setIfInBounds_toArray, List.set_cons_zero, List.set_cons_succ]
    refine wpAnyH_take (i := 7) (v := ?_) rfl (by kernel_rfl) (by kernel_rfl) (by kernel_rfl) (fun _ _ _ h => h) (Or.inl ⟨rfl, ?_⟩) hHeld ?_
    rotate_left
    · (intro w hSw; (try dsimp only at hSw); go_simp; try (with_reducible rfl))
    simp only [List.getElem_toArray, List.getElem_cons_succ, List.getElem_cons_zero, Act.put, List.setIfInBounds_toArray, List.set_cons_zero, List.set_cons_succ]
    refine wpAnyH_take (i := 8) (v := ?_) rfl (by kernel_rfl) (by kernel_rfl) (by kernel_rfl) (fun _ _ _ h => h) (Or.inl ⟨rfl, ?_⟩) hHeld ?_
    rotate_left
    · (intro w hSw; (try dsimp only at hSw); go_simp; try (with_reducible rfl))
    simp only [List.getElem_toArray, List.getElem_cons_succ, List.getElem_cons_zero, Act.put, List.setIfInBounds_toArray, List.set_cons_zero, List.set_cons_succ]
    refine wpAnyH_take (i := 9) (v := ?_) rfl (by kernel_rfl) (by kernel_rfl) (by kernel_rfl) (fun _ _ _ h => h) (Or.inl ⟨rfl, ?_⟩) hHeld ?_
    rotate_left
    · (intro w hSw; (try dsimp only at hSw); go_simp; try (with_reducible rfl))
    simp only [List.getElem_toArray, List.getElem_cons_succ, List.getElem_cons_zero, Act.put, List.setIfInBounds_toArray, List.set_cons_zero, List.set_cons_succ]
    refine wpAnyH_take (i := 10) (v := ?_) rfl (by kernel_rfl) (by kernel_rfl) (by kernel_rfl) (fun _ _ _ h => h) (Or.inl ⟨rfl, ?_⟩) hHeld ?_
    rotate_left
    · (intro w hSw; (try dsimp only at hSw); go_simp; try (with_reducible rfl))
    simp only [List.getElem_toArray, List.getElem_cons_succ, List.getElem_cons_zero, Act.put, List.setIfInBounds_toArray, List.set_cons_zero, List.set_cons_succ]
    refine wpAnyH_ready (rs := [11]) (by kernel_rfl) (by simp) ?_
    refine AllReadyH.cons rfl (fun K hK => ?_) AllReadyH.nil
    simp only [List.getElem_toArray, List.getElem_cons_succ, List.getElem_cons_zero]
    go_simp
    go_wp2_with (first | (go_at_call 30; refine (D5.out _ ((Fr.refl [] w4).drew)).mono ?_; rintro e w5 ⟨a7, c7, rfl, hG1⟩))
    refine hK.out _ _ (by first | (exact KP.out _ (((Fr.refl [] w4).drew).trans hG1 (by simp))) | go_keep) (fun hHeld => ?_)
    clear hK K
    refine wpAnyH_take (i := 12) (v := ?_) rfl (by kernel_rfl) (by kernel_rfl) (by kernel_rfl) (fun _ _ _ h => h) (Or.inl ⟨rfl, ?_⟩) hHeld ?_
    rotate_left
    · (intro w hSw; (try dsimp only at hSw); go_simp; try (with_reducible rfl))
    simp only [List.getElem_toArray, List.getElem_cons_succ, List.getElem_cons_zero, Act.put, List.setIfInBounds_toArray, List.set_cons_zero, List.set_cons_succ]
    refine wpAnyH_take (i := 13) (v := ?_) rfl (by kernel_rfl) (by kernel_rfl) (by kernel_rfl) (fun _ _ _ h => h) (Or.inl ⟨rfl, ?_⟩) hHeld ?_
    rotate_left
    · (intro w hSw; (try dsimp only at hSw); go_simp; try (with_reducible rfl))
    simp only [List.getElem_toArray, List.getElem_cons_succ, List.getElem_cons_zero, Act.put, List.setIfInBounds_toArray, List.set_cons_zero, List.set_cons_succ]
    refine wpAnyH_take (i := 14) (v := ?_) rfl (by kernel_rfl) (by kernel_rfl) (by kernel_rfl) (fun _ _ _ h => h) (Or.inl ⟨rfl, ?_⟩) hHeld ?_
    rotate_left
    · (intro w hSw; (try dsimp only at hSw); go_simp; try (with_reducible rfl))
    simp only [List.getElem_toArray, List.getElem_cons_succ, List.getElem_cons_zero, Act.put, List.setIfInBounds_toArray, List.set_cons_zero, List.set_cons_succ]
    refine wpAnyH_take (i := 15) (v := ?_) rfl (by kernel_rfl) (by kernel_rfl) (by kernel_rfl) (fun _ _ _ h => h) (Or.inl ⟨rfl, ?_⟩) hHeld ?_
    rotate_left
    · (intro w hSw; (try dsimp only at hSw); go_simp; try (with_reducible rfl))
    simp only [List.getElem_toArray, List.getElem_cons_succ, List.getElem_cons_zero, Act.put, List.setIfInBounds_toArray, List.set_cons_zero, List.set_cons_succ]
    refine wpAnyH_take (i := 16) (v := ?_) rfl (by kernel_rfl) (by kernel_rfl) (by kernel_rfl) (fun _ _ _ h => h) (Or.inl ⟨rfl, ?_⟩) hHeld ?_
    rotate_left
    · (intro w hSw; (try dsimp only at hSw); go_simp; try (with_reducible rfl))
    simp only [List.getElem_toArray, List.getElem_cons_succ, List.getElem_cons_zero, Act.put, List.setIfInBounds_toArray, List.set_cons_zero, List.set_cons_succ]
    refine wpAnyH_done (by kernel_rfl) ?_ _
    have FZ := Lib.hid (F4.out.trans (((Fr.refl [] w4).drew).trans hG1 (by simp)) (by simp))
    clear hG1 hHeld KP D5
    go_wp2_with fail
    go_ret2
    exact ⟨R, by rw [E2.out]; rfl, by rw [E2.out], .refl HH.out FZ.out⟩
  have HEZ := Lib.hid (doE_zero hE)
  obtain ⟨M, hM⟩ : ∃ M, doM f x.m at'.toNat = M := ⟨_, rfl⟩
  have HM := Lib.hid hM
  rw [hE, hM] at D4
  have D5 := Lib.hid (fun w' (g' : Fr [] w4 w') => (D4.out w' g').mono fun e w'' h => nextF_ok0 h)
  unfold FlatD.val at D5
  unfold NewOk at D5
  clear hE hM D4
  go_wp2_with fail
  refine wp_region_held_drew (S := (fun w' => w'.cell? ⟨rb, 0, none⟩ = some (.slice (some ⟨gt, ot, none⟩) nf R.fc) ∧ w'.cell? ⟨x8, 1, none⟩ = some (.int .i64 x.tp) ∧ w'.cell? ⟨x8, 4, none⟩ = some (.slice x.a x.m.length x.c) ∧ w'.cell? ⟨gt, ot + x.tp * 2, none⟩ = some (.slice f.ea f.en f.ec) ∧ w'.cell? ⟨gt, ot + x.tp * 2 + 1, none⟩ = some (.slice f.ta f.tn f.tc))) (by kernel_rfl) (KP.out _ ((Fr.refl [] w4).drew)) (fun hHeld => ?_)
  refine wpAnyH_take (i := 0) (v := ?_) rfl (by kernel_rfl) (by kernel_rfl) (by kernel_rfl) (fun _ _ _ h => h) (Or.inl ⟨rfl, ?_⟩) hHeld ?_
  rotate_left
  · (intro w hSw; (try dsimp only at hSw); go_simp; try (with_reducible rfl))
  simp only [List.getElem_toArray, List.getElem_cons_succ, List.getElem_cons_zero, Act.put, List.setIfInBounds_toArray, List.set_cons_zero, List.set_cons_succ]
  refine wpAnyH_take (i := 1) (v := ?_) rfl (by kernel_rfl) (by kernel_rfl) (by kernel_rfl) (fun _ _ _ h => h) (Or.inl ⟨rfl, ?_⟩) hHeld ?_
  rotate_left
  · (intro w hSw; (try dsimp only at hSw); go_simp; try (with_reducible rfl))
  simp only [List.getElem_toArray, List.getElem_cons_succ, List.getElem_cons_zero, Act.put, List.setIfInBounds_toArray, List.set_cons_zero, List.set_cons_succ]
  refine wpAnyH_take (i := 2) (v := ?_) rfl (by kernel_rfl) (by kernel_rfl) (by kernel_rfl) (fun _ _ _ h => h) (Or.inl ⟨rfl, ?_⟩) hHeld ?_
  rotate_left
  · (intro w hSw; (try dsimp only at hSw); go_simp; try (with_reducible rfl))
  simp only [List.getElem_toArray, List.getElem_cons_succ, List.getElem_cons_zero, Act.put, List.setIfInBounds_toArray, List.set_cons_zero, List.set_cons_succ]
  refine wpAnyH_take (i := 3) (v := ?_) rfl (by kernel_rfl) (by kernel_rfl) (by kernel_rfl) (fun _ _ _ h => h) (Or.inl ⟨rfl, ?_⟩) hHeld ?_
  rotate_left
  · (intro w hSw; (try dsimp only at hSw); go_simp; try (with_reducible rfl))
  simp only [List.getElem_toArray, List.getElem_cons_succ, List.getElem_cons_zero, Act.put, List.setIfInBounds_toArray, List.set_cons_zero, List.set_cons_succ]
  refine wpAnyH_take (i := 4) (v := ?_) rfl (by kernel_rfl) (by kernel_rfl) (by kernel_rfl) (fun _ _ _ h => h) (Or.inl ⟨rfl, ?_⟩) hHeld ?_
  rotate_left
  · (intro w hSw; (try dsimp only at hSw); go_simp; try (with_reducible rfl))
  simp only [List.getElem_toArray, List.getElem_cons_succ, List.getElem_cons_zero, Act.put, List.setIfInBounds_toArray, List.set_cons_zero, List.set_cons_succ]
  refine wpAnyH_take (i := 5) (v := ?_) rfl (by kernel_rfl) (by kernel_rfl) (by kernel_rfl) (fun _ _ _ h => h) (Or.inl ⟨rfl, ?_⟩) hHeld ?_
  rotate_left
  · (intro w hSw; (try dsimp only at hSw); go_simp; try (with_reducible rfl))
  simp only [List.getElem_toArray, List.getElem_cons_succ, List.getElem_cons_zero, Act.put, List.setIfInBounds_toArray, List.set_cons_zero, List.set_cons_succ]
  refine wpAnyH_take (i := 6) (v := ?_) rfl (by kernel_rfl) (by kernel_rfl) (by kernel_rfl) (fun _ _ _ h => h) (Or.inl ⟨rfl, ?_⟩) hHeld ?_
  rotate_left
  · (intro w hSw; (try dsimp only at hSw); go_simp; try (with_reducible rfl))
  simp only [List.getElem_toArray, List.getElem_cons_succ, List.getElem_cons_zero, Act.put, List.setIfInBounds_toArray, List.set_cons_zero, List.set_cons_succ]
  refine wpAnyH_take (i := 7) (v := ?_) rfl (by kernel_rfl) (by kernel_rfl) (by kernel_rfl) (fun _ _ _ h => h) (Or.inl ⟨rfl, ?_⟩) hHeld ?_
  rotate_left
  · (intro w hSw; (try dsimp only at hSw); go_simp; try (with_reducible rfl))
  simp only [List.getElem_toArray, List.getElem_cons_succ, List.getElem_cons_zero, Act.put, List.setIfInBounds_toArray, List.set_cons_zero, List.set_cons_succ]
  refine wpAnyH_take (i := 8) (v := ?_) rfl (by kernel_rfl) (by kernel_rfl) (by kernel_rfl) (fun _ _ _ h => h) (Or.inl ⟨rfl, ?_⟩) hHeld ?_
  rotate_left
  · (intro w hSw; (try dsimp only at hSw); go_simp; try (with_reducible rfl))
  simp only [List.getElem_toArray, List.getElem_cons_succ, List.getElem_cons_zero, Act.put, List.setIfInBounds_toArray, List.set_cons_zero, List.set_cons_succ]
  refine wpAnyH_take (i := 9) (v := ?_) rfl (by kernel_rfl) (by kernel_rfl) (by kernel_rfl) (fun _ _ _ h => h) (Or.inl ⟨rfl, ?_⟩) hHeld ?_
  rotate_left
  · (intro w hSw; (try dsimp only at hSw); go_simp; try (with_reducible rfl))
  simp only [List.getElem_toArray, List.getElem_cons_succ, List.getElem_cons_zero, Act.put, List.setIfInBounds_toArray, List.set_cons_zero, List.set_cons_succ]
  refine wpAnyH_take (i := 10) (v := ?_) rfl (by kernel_rfl) (by kernel_rfl) (by kernel_rfl) (fun _ _ _ h => h) (Or.inl ⟨rfl, ?_⟩) hHeld ?_
  rotate_left
  · (intro w hSw; (try dsimp only at hSw); go_simp; try (with_reducible rfl))
  simp only [List.getElem_toArray, List.getElem_cons_succ, List.getElem_cons_zero, Act.put, List.setIfInBounds_toArray, List.set_cons_zero, List.set_cons_succ]
  refine wpAnyH_ready (rs := [11]) (by kernel_rfl) (by simp) ?_
  refine AllReadyH.cons rfl (fun K hK => ?_) AllReadyH.nil
  simp only [List.getElem_toArray, List.getElem_cons_succ, List.getElem_cons_zero]
  go_simp
  go_wp2_with (first | (go_at_call 30; refine (D5.out _ ((Fr.refl [] w4).drew)).mono ?_; rintro e w5 ⟨a7, c7, rfl, hM7, hG1, hfr7⟩))
  refine hK.out _ _ (by first | (exact KP.out _ (((Fr.refl [] w4).drew).trans hG1 (by simp))) | go_keep) (fun hHeld => ?_)
  clear hK K
  refine wpAnyH_take (i := 12) (v := ?_) rfl (by kernel_rfl) (by kernel_rfl) (by kernel_rfl) (fun _ _ _ h => h) (Or.inl ⟨rfl, ?_⟩) hHeld ?_
  rotate_left
  · (intro w hSw; (try dsimp only at hSw); go_simp; try (with_reducible rfl))
  simp only [List.getElem_toArray, List.getElem_cons_succ, List.getElem_cons_zero, Act.put, List.setIfInBounds_toArray, List.set_cons_zero, List.set_cons_succ]
  refine wpAnyH_take (i := 13) (v := ?_) rfl (by kernel_rfl) (by kernel_rfl) (by kernel_rfl) (fun _ _ _ h => h) (Or.inl ⟨rfl, ?_⟩) hHeld ?_
  rotate_left
  · (intro w hSw; (try dsimp only at hSw); go_simp; try (with_reducible rfl))
  simp only [List.getElem_toArray, List.getElem_cons_succ, List.getElem_cons_zero, Act.put, List.setIfInBounds_toArray, List.set_cons_zero, List.set_cons_succ]
  refine wpAnyH_take (i := 14) (v := ?_) rfl (by kernel_rfl) (by kernel_rfl) (by kernel_rfl) (fun _ _ _ h => h) (Or.inl ⟨rfl, ?_⟩) hHeld ?_
  rotate_left
  · (intro w hSw; (try dsimp only at hSw); go_simp; try (with_reducible rfl))
  simp only [List.getElem_toArray, List.getElem_cons_succ, List.getElem_cons_zero, Act.put, List.setIfInBounds_toArray, List.set_cons_zero, List.set_cons_succ]
  refine wpAnyH_take (i := 15) (v := ?_) rfl (by kernel_rfl) (by kernel_rfl) (by kernel_rfl) (fun _ _ _ h => h) (Or.inl ⟨rfl, ?_⟩) hHeld ?_
  rotate_left
  · (intro w hSw; (try dsimp only at hSw); go_simp; try (with_reducible rfl))
  simp only [List.getElem_toArray, List.getElem_cons_succ, List.getElem_cons_zero, Act.put, List.setIfInBounds_toArray, List.set_cons_zero, List.set_cons_succ]
  refine wpAnyH_take (i := 16) (v := ?_) rfl (by kernel_rfl) (by kernel_rfl) (by kernel_rfl) (fun _ _ _ h => h) (Or.inl ⟨rfl, ?_⟩) hHeld ?_
  rotate_left
  · (intro w hSw; (try dsimp only at hSw); go_simp; try (with_reducible rfl))
  simp only [List.getElem_toArray, List.getElem_cons_succ, List.getElem_cons_zero, Act.put, List.setIfInBounds_toArray, List.set_cons_zero, List.set_cons_succ]
  refine wpAnyH_done (by kernel_rfl) ?_ _
  have F45 := Lib.hid (((Fr.refl [] w4).drew).trans hG1 (by simp))
  have F5 := Lib.hid (F4.out.trans F45.out (by simp))
  have M7 := Lib.hid hM7
  have HFR := Lib.hid (fun q (hq : Holds a7 M.length q) => (by obtain ⟨_, o, ho⟩ := hq; exact .inr (Nat.le_trans F4.out.size (hfr7 q o ho)) : Holds (R.L.getD k default).a (R.L.getD k default).m.length q ∨ w.heap.size ≤ q))
  clear hG1 hM7 hfr7 hHeld KP D5
  have C6 := rcall_any rb R x.tp at' w5 (HH.out.fr F5.out) (by rw [← HNC.out]; exact hc20)
  have x1 := cell_fr' X1.out F45.out
  go_wp2_with fail
  refine C6.mono ?_
  rintro e w6 ⟨r, rfl, hcr, hF⟩
  have F56 := Lib.hid hF
  have F6 := Lib.hid (F5.out.trans hF (by simp))
  have M6 := Lib.hid (M7.out.fr hF)
  clear hF C6 x1
  rcases hcr with ⟨rfl, hno⟩ | ⟨ci, rfl, hci, hkey⟩
  · have E2 := Lib.hid (show doF R.pl (k : Int) at' = (-1, 0, R.pl.setm (k : Int) M) by
      have := doF_done (at' := at') OF.out HEZ.out.1 (by rw [XF.out]; exact HEZ.out.2) (call_none R.Cs.length hno)
      rw [XF.out] at this
      rw [this, ← HM.out]
      rfl)
    have r2 := cell_fr' RR.out.2.2.1 F6.out
    have x4 := cell_fr' (HCX.out 4 _ rfl) F6.out
    have y6 : w6.frozen? ⟨g, k * 5 + 4, none⟩ = false := (HH.out.fr F6.out).frozen HV.out _
    have N1 := Lib.hid (show NextR rb R (R.setN k { R.L.getD k default with a := a7, c := c7, m := M }) w (w6.setCell ⟨g, k * 5 + 4, none⟩ (.slice a7 M.length c7)) from
      setn_fin HH.out (by rw [← HN.out]; exact hk) F6.out HV.out (by omega) rfl M6.out HFR.out)
    have HP := Lib.hid (show (R.setN k { R.L.getD k default with a := a7, c := c7, m := M }).pl = R.pl.setm (k : Int) M by
      have hl2 : (R.setN k { R.L.getD k default with a := a7, c := c7, m := M }).L.length = R.L.length := List.length_set
      refine PT.ext rfl rfl ?_ hl2
      show liveN _ (R.setN k { R.L.getD k default with a := a7, c := c7, m := M }).L.length = _
      rw [hl2]
      exact liveN_setM R.L (by rw [← HN.out]; exact hk) a7 c7 M _)
    clear hno
    go_wp2_with fail
    go_ret2
    exact ⟨_, by rw [E2.out]; rfl, by rw [E2.out]; exact HP.out, N1.out⟩
  obtain ⟨cq, hcq⟩ : ∃ d, R.Cs.getD ci default = d := ⟨_, rfl⟩
  have hsome := call_some HU.out hci R.Cs.length hci (Nat.le_refl _)
  rw [hkey, hcq] at hsome
  have HC := Lib.hid (show R.pl.C (((x.pi k).tp : Int), at') = some cq from hsome)
  obtain ⟨_, cl0, clt, clf, _⟩ := HG.out.calls _ _ HC.out
  have E1 := Lib.hid (by
    have := doF_call (at' := at') OF.out HEZ.out.1 (by rw [XF.out]; exact HEZ.out.2) HC.out
    exact this)
  obtain ⟨gc, oc, hca, _, hcc⟩ := (HH.out.calls.fr F6.out).at_ (by omega)
  have hc4 := hcc ci hci
  rw [hcq] at hc4
  have HC4 : Hid (∀ k' v, ([.int .i64 cq.of_, .int .i64 cq.at_, .int .i64 cq.to_, .bool cq.many] : List Value)[k']? = some v → w6.cell? ⟨gc, oc + ci * 4 + k', none⟩ = some v) := Lib.hid hc4
  have r1 := cell_fr' RR.out.2.1 F6.out
  rw [hca] at r1
  have hcin : ci < nc := by rw [HNC.out]; exact hci
  have dc : decide (ci < nc) = true := decide_eq_true hcin
  have dr : decide ((ci : Int) < 0) = false := decide_eq_false (by omega)
  obtain ⟨tq, htq⟩ : ∃ t : Nat, cq.to_ = (t : Int) := Int.eq_ofNat_of_zero_le (by omega)
  have htqf : tq < nf := by
    rw [HNF.out]
    have h1 : R.pl.Fs.length = R.Fs.length := by show (R.Fs.map FlatD.nrm).length = _; simp
    rw [htq, h1] at clf
    omega
  have HTQ := Lib.hid htq
  clear hca hcc hc4 hsome hkey hci cl0 clt clf htq hcq
  go_wp2_with (first | ((with_reducible refine wpList_load_at rfl 117 (.tmp 62) rfl agg117 4 size117 gc (oc + ci * 4) [.int .i64 cq.of_, .int .i64 cq.at_, .int .i64 cq.to_, .bool cq.many] rfl HC4.out ?_ ?_); exact rfl) | ((with_reducible refine wpList_var_agg rfl rfl 117 (.tmp 12) (.tmp 63) rfl rfl 4 zero117 [.int .i64 cq.of_, .int .i64 cq.at_, .int .i64 cq.to_, .bool cq.many] rfl ?_ ?_ ?_ ?_); (intro u hu; simp at hu; rcases hu with rfl | rfl | rfl | rfl <;> rfl); exact rfl; exact rfl))
  intro w7 hr7 hs7 hf7
  have F7 := Lib.hid (F6.out.trans hf7 (by simp))
  obtain ⟨c12, hc12⟩ : ∃ b, w6.heap.size = b := ⟨_, rfl⟩
  rw [hc12] at hr7 ⊢
  have Q2 := Lib.hid (show w7.cell? ⟨c12, 2, none⟩ = some (.int .i64 (tq : Nat)) by rw [← HTQ.out]; exact hr7.cell 2)
  have Q3 := Lib.hid (show w7.cell? ⟨c12, 3, none⟩ = some (.bool cq.many) from hr7.cell 3)
  clear hr7 hs7 hf7 hc12 r1
  have CK := Lib.hid (fun w' (f' : Fr [] w w') => (rkids_any rb R (k : Int) at' w' (HH.out.fr f')).mono fun e w'' h => h.at_)
  have CL := Lib.hid (fun w' (f' : Fr [] w w') => (rlive_any rb R w' (HH.out.fr f')).mono fun e w'' h => h.at_)
  obtain ⟨kn, hkn⟩ : ∃ n, ((R.pl.kids (k : Int) at').map (·.id)).length = n := ⟨_, rfl⟩
  have hkn2 : (R.pl.kids (k : Int) at').length = kn := by rw [← hkn, List.length_map]
  obtain ⟨ln, hln⟩ : ∃ n, (R.pl.L.map (·.id)).length = n := ⟨_, rfl⟩
  have hln2 : R.pl.L.length = ln := by rw [← hln, List.length_map]
  unfold Go.Proofs.Ytclkahggfdnpgaa.IntsP at CK CL
  rw [hkn] at CK
  rw [hln] at CL
  rw [hkn2, hln2] at E1
  obtain ⟨mb, hmb⟩ : ∃ b, cq.many = b := ⟨_, rfl⟩
  rw [hmb] at E1 Q3
  have q3 := Q3.out
  clear hkn hkn2 hln hln2 hmb
  by_cases hhold : mb = false ∧ 0 < kn
  · obtain ⟨rfl, hk0⟩ := hhold
    have d5 : decide ((kn : Int) > 0) = true := decide_eq_true (by omega)
    have d5' : decide (0 < kn) = true := decide_eq_true hk0
    have E2 := Lib.hid (show doF R.pl (k : Int) at' = (0, 17, R.pl) by rw [E1.out, if_pos ⟨rfl, hk0⟩])
    clear hk0
    go_wp2_with fail
    refine (CK.out _ F7.out).mono ?_
    rintro e w8 ⟨ak, ck, rfl, _, _, hF⟩
    have F8 := Lib.hid (F7.out.trans hF (by simp))
    clear hF CK CL
    go_wp2_with fail
    go_ret2
    exact ⟨R, by rw [E2.out]; rfl, by rw [E2.out], .refl HH.out F8.out⟩
  have E3 := Lib.hid (by
    have := E1.out
    rw [if_neg hhold] at this
    exact this)
  have W8 := Lib.hid (show mb = true ∨ (mb = false ∧ kn = 0) by
    cases mb
    · right
      refine ⟨rfl, ?_⟩
      by_cases h0 : 0 < kn
      · exact absurd ⟨rfl, h0⟩ hhold
      · omega
    · exact .inl rfl)
  clear hhold E1
  rcases W8.out with hmt | ⟨hmt, hk0⟩
  · subst hmt
    clear W8
    have F8 := F7
    have Q28 := Q2
    go_wp2_with fail
    refine (CL.out _ F8.out).mono ?_
    rintro e w9 ⟨al, cl, rfl, _, _, hF⟩
    have F9 := Lib.hid (F8.out.trans hF (by simp))
    have Q29 := Lib.hid (cell_fr' Q28.out hF)
    clear hF CK CL
    by_cases h40 : 40 ≤ ln
    · have d6 : decide ((ln : Int) ≥ 40) = true := decide_eq_true (by omega)
      have E2 := Lib.hid (show doF R.pl (k : Int) at' = (0, 4, R.pl) by rw [E3.out, if_pos h40])
      clear h40
      go_wp2_with fail
      go_ret2
      exact ⟨R, by rw [E2.out]; rfl, by rw [E2.out], .refl HH.out F9.out⟩
    have d6 : decide ((ln : Int) ≥ 40) = false := decide_eq_false (by omega)
    obtain ⟨fq, hfq⟩ : ∃ f, R.Fs.getD tq default = f := ⟨_, rfl⟩
    have hfqm : fq ∈ R.Fs := by rw [← hfq]; exact getD_memD _ _ (by rw [← HNF.out]; exact htqf)
    have heq := HH.out.en fq hfqm
    have hcfq := HCT.out tq htqf
    rw [hfq] at hcfq
    have E2 := Lib.hid (show doF R.pl (k : Int) at' = ((R.pl.next : Int), (0 : Int), ({ R.pl with L := R.pl.L ++ [⟨R.pl.next, tq, fq.E.map startM, k, at'⟩], next := R.pl.next + 1 } : PT)) by
      rw [E3.out, if_neg h40, HTQ.out, Int.toNat_natCast, show R.pl.Fs.getD tq default = fq.nrm by rw [← hfq]; exact getD_nrm _ _]
      rfl)
    have FQ := Lib.hid (HH.out.flats fq hfqm)
    have HEL := Lib.hid (HH.out.flats fq hfqm).evs.1
    have u0 : w.cell? ⟨gt, ot + tq * 2, none⟩ = some (.slice fq.ea fq.en fq.ec) := hcfq 0 _ rfl
    have u1 : w.cell? ⟨gt, ot + tq * 2 + 1, none⟩ = some (.slice fq.ta fq.tn fq.tc) := hcfq 1 _ rfl
    have dq : decide (tq < nf) = true := decide_eq_true htqf
    have KQ := Lib.hid (fun w' (f' : Fr [] w9 w') => (⟨cell_fr' (cell_fr' RR.out.1 F9.out) f', cell_fr' (cell_fr' RR.out.2.2.1 F9.out) f', cell_fr' Q29.out f', cell_fr' (cell_fr' u0 F9.out) f', cell_fr' (cell_fr' u1 F9.out) f'⟩ : w'.cell? ⟨rb, 0, none⟩ = some (.slice (some ⟨gt, ot, none⟩) nf R.fc) ∧ w'.cell? ⟨rb, 2, none⟩ = some (.slice (some ⟨g, 0, none⟩) n c) ∧ w'.cell? ⟨c12, 2, none⟩ = some (.int .i64 (tq : Nat)) ∧ w'.cell? ⟨gt, ot + tq * 2, none⟩ = some (.slice fq.ea fq.en fq.ec) ∧ w'.cell? ⟨gt, ot + tq * 2 + 1, none⟩ = some (.slice fq.ta fq.tn fq.tc)))
    have D7 := Lib.hid (fun w' (g' : Fr [] w9 w') => rstart_fresh fq w' ((FQ.out.fr F9.out).fr g'))
    unfold FlatD.val at D7
    unfold MarkedF at D7
    clear hfq hfqm hcfq h40 u0 u1 q3
    go_wp2_with fail
    refine wp_region_last (S := (fun w' => w'.cell? ⟨rb, 0, none⟩ = some (.slice (some ⟨gt, ot, none⟩) nf R.fc) ∧ w'.cell? ⟨rb, 2, none⟩ = some (.slice (some ⟨g, 0, none⟩) n c) ∧ w'.cell? ⟨c12, 2, none⟩ = some (.int .i64 (tq : Nat)) ∧ w'.cell? ⟨gt, ot + tq * 2, none⟩ = some (.slice fq.ea fq.en fq.ec) ∧ w'.cell? ⟨gt, ot + tq * 2 + 1, none⟩ = some (.slice fq.ta fq.tn fq.tc))) 25 (by kernel_rfl) (KQ.out _ ((Fr.refl [] w9).drew)) (fun hHeld => ?_)
    refine wpAnyL_take (i := 0) (v := ?_) rfl (by kernel_rfl) (by kernel_rfl) (by kernel_rfl) (by kernel_rfl) (fun _ _ _ h => h) (Or.inl ⟨rfl, ?_⟩) hHeld ?_
    rotate_left
    · (intro w hSw; (try dsimp only at hSw); go_simp; try (with_reducible rfl))
    simp only [List.getElem_toArray, List.getElem_cons_succ, List.getElem_cons_zero, Act.put, List.setIfInBounds_toArray, List.set_cons_zero, List.set_cons_succ]
    refine wpAnyL_take (i := 2) (v := ?_) rfl (by kernel_rfl) (by kernel_rfl) (by kernel_rfl) (by kernel_rfl) (fun _ _ _ h => h) (Or.inl ⟨rfl, ?_⟩) hHeld ?_
    rotate_left
    · (intro w hSw; (try dsimp only at hSw); go_simp; try (with_reducible rfl))
    simp only [List.getElem_toArray, List.getElem_cons_succ, List.getElem_cons_zero, Act.put, List.setIfInBounds_toArray, List.set_cons_zero, List.set_cons_succ]
    refine wpAnyL_take (i := 3) (v := ?_) rfl (by kernel_rfl) (by kernel_rfl) (by kernel_rfl) (by kernel_rfl) (fun _ _ _ h => h) (Or.inl ⟨rfl, ?_⟩) hHeld ?_
    rotate_left
    · (intro w hSw; (try dsimp only at hSw); go_simp; try (with_reducible rfl))
    simp only [List.getElem_toArray, List.getElem_cons_succ, List.getElem_cons_zero, Act.put, List.setIfInBounds_toArray, List.set_cons_zero, List.set_cons_succ]
    refine wpAnyL_take (i := 4) (v := ?_) rfl (by kernel_rfl) (by kernel_rfl) (by kernel_rfl) (by kernel_rfl) (fun _ _ _ h => h) (Or.inl ⟨rfl, ?_⟩) hHeld ?_
    rotate_left
    · (intro w hSw; (try dsimp only at hSw); go_simp; try (with_reducible rfl))
    simp only [List.getElem_toArray, List.getElem_cons_succ, List.getElem_cons_zero, Act.put, List.setIfInBounds_toArray, List.set_cons_zero, List.set_cons_succ]
    refine wpAnyL_take (i := 5) (v := ?_) rfl (by kernel_rfl) (by kernel_rfl) (by kernel_rfl) (by kernel_rfl) (fun _ _ _ h => h) (Or.inl ⟨rfl, ?_⟩) hHeld ?_
    rotate_left
    · (intro w hSw; (try dsimp only at hSw); go_simp; try (with_reducible rfl))
    simp only [List.getElem_toArray, List.getElem_cons_succ, List.getElem_cons_zero, Act.put, List.setIfInBounds_toArray, List.set_cons_zero, List.set_cons_succ]
    refine wpAnyL_take (i := 7) (v := ?_) rfl (by kernel_rfl) (by kernel_rfl) (by kernel_rfl) (by kernel_rfl) (fun _ _ _ h => h) (Or.inl ⟨rfl, ?_⟩) hHeld ?_
    rotate_left
    · (intro w hSw; (try dsimp only at hSw); go_simp; try (with_reducible rfl))
    simp only [List.getElem_toArray, List.getElem_cons_succ, List.getElem_cons_zero, Act.put, List.setIfInBounds_toArray, List.set_cons_zero, List.set_cons_succ]
    refine wpAnyL_take (i := 8) (v := ?_) rfl (by kernel_rfl) (by kernel_rfl) (by kernel_rfl) (by kernel_rfl) (fun _ _ _ h => h) (Or.inl ⟨rfl, ?_⟩) hHeld ?_
    rotate_left
    · (intro w hSw; (try dsimp only at hSw); go_simp; try (with_reducible rfl))
    simp only [List.getElem_toArray, List.getElem_cons_succ, List.getElem_cons_zero, Act.put, List.setIfInBounds_toArray, List.set_cons_zero, List.set_cons_succ]
    refine wpAnyL_take (i := 9) (v := ?_) rfl (by kernel_rfl) (by kernel_rfl) (by kernel_rfl) (by kernel_rfl) (fun _ _ _ h => h) (Or.inl ⟨rfl, ?_⟩) hHeld ?_
    rotate_left
    · (intro w hSw; (try dsimp only at hSw); go_simp; try (with_reducible rfl))
    simp only [List.getElem_toArray, List.getElem_cons_succ, List.getElem_cons_zero, Act.put, List.setIfInBounds_toArray, List.set_cons_zero, List.set_cons_succ]
    refine wpAnyL_take (i := 10) (v := ?_) rfl (by kernel_rfl) (by kernel_rfl) (by kernel_rfl) (by kernel_rfl) (fun _ _ _ h => h) (Or.inl ⟨rfl, ?_⟩) hHeld ?_
    rotate_left
    · (intro w hSw; (try dsimp only at hSw); go_simp; try (with_reducible rfl))
    simp only [List.getElem_toArray, List.getElem_cons_succ, List.getElem_cons_zero, Act.put, List.setIfInBounds_toArray, List.set_cons_zero, List.set_cons_succ]
    refine wpAnyL_take (i := 11) (v := ?_) rfl (by kernel_rfl) (by kernel_rfl) (by kernel_rfl) (by kernel_rfl) (fun _ _ _ h => h) (Or.inl ⟨rfl, ?_⟩) hHeld ?_
    rotate_left
    · (intro w hSw; (try dsimp only at hSw); go_simp; try (with_reducible rfl))
    simp only [List.getElem_toArray, List.getElem_cons_succ, List.getElem_cons_zero, Act.put, List.setIfInBounds_toArray, List.set_cons_zero, List.set_cons_succ]
    refine wpAnyL_take (i := 12) (v := ?_) rfl (by kernel_rfl) (by kernel_rfl) (by kernel_rfl) (by kernel_rfl) (fun _ _ _ h => h) (Or.inl ⟨rfl, ?_⟩) hHeld ?_
    rotate_left
    · (intro w hSw; (try dsimp only at hSw); go_simp; try (with_reducible rfl))
    simp only [List.getElem_toArray, List.getElem_cons_succ, List.getElem_cons_zero, Act.put, List.setIfInBounds_toArray, List.set_cons_zero, List.set_cons_succ]
    refine wpAnyL_take (i := 13) (v := ?_) rfl (by kernel_rfl) (by kernel_rfl) (by kernel_rfl) (by kernel_rfl) (fun _ _ _ h => h) (Or.inl ⟨rfl, ?_⟩) hHeld ?_
    rotate_left
    · (intro w hSw; (try dsimp only at hSw); go_simp; try (with_reducible rfl))
    simp only [List.getElem_toArray, List.getElem_cons_succ, List.getElem_cons_zero, Act.put, List.setIfInBounds_toArray, List.set_cons_zero, List.set_cons_succ]
    refine wpAnyL_take (i := 14) (v := ?_) rfl (by kernel_rfl) (by kernel_rfl) (by kernel_rfl) (by kernel_rfl) (fun _ _ _ h => h) (Or.inl ⟨rfl, ?_⟩) hHeld ?_
    rotate_left
    · (intro w hSw; (try dsimp only at hSw); go_simp; try (with_reducible rfl))
    simp only [List.getElem_toArray, List.getElem_cons_succ, List.getElem_cons_zero, Act.put, List.setIfInBounds_toArray, List.set_cons_zero, List.set_cons_succ]
    refine wpAnyL_take (i := 15) (v := ?_) rfl (by kernel_rfl) (by kernel_rfl) (by kernel_rfl) (by kernel_rfl) (fun _ _ _ h => h) (Or.inl ⟨rfl, ?_⟩) hHeld ?_
    rotate_left
    · (intro w hSw; (try dsimp only at hSw); go_simp; try (with_reducible rfl))
    simp only [List.getElem_toArray, List.getElem_cons_succ, List.getElem_cons_zero, Act.put, List.setIfInBounds_toArray, List.set_cons_zero, List.set_cons_succ]
    refine wpAnyL_take (i := 16) (v := ?_) rfl (by kernel_rfl) (by kernel_rfl) (by kernel_rfl) (by kernel_rfl) (fun _ _ _ h => h) (Or.inl ⟨rfl, ?_⟩) hHeld ?_
    rotate_left
    · (intro w hSw; (try dsimp only at hSw); go_simp; try (with_reducible rfl))
    simp only [List.getElem_toArray, List.getElem_cons_succ, List.getElem_cons_zero, Act.put, List.setIfInBounds_toArray, List.set_cons_zero, List.set_cons_succ]
    refine wpAnyL_take (i := 17) (v := ?_) rfl (by kernel_rfl) (by kernel_rfl) (by kernel_rfl) (by kernel_rfl) (fun _ _ _ h => h) (Or.inl ⟨rfl, ?_⟩) hHeld ?_
    rotate_left
    · (intro w hSw; (try dsimp only at hSw); go_simp; try (with_reducible rfl))
    simp only [List.getElem_toArray, List.getElem_cons_succ, List.getElem_cons_zero, Act.put, List.setIfInBounds_toArray, List.set_cons_zero, List.set_cons_succ]
    refine wpAnyL_take (i := 18) (v := ?_) rfl (by kernel_rfl) (by kernel_rfl) (by kernel_rfl) (by kernel_rfl) (fun _ _ _ h => h) (Or.inl ⟨rfl, ?_⟩) hHeld ?_
    rotate_left
    · (intro w hSw; (try dsimp only at hSw); go_simp; try (with_reducible rfl))
    simp only [List.getElem_toArray, List.getElem_cons_succ, List.getElem_cons_zero, Act.put, List.setIfInBounds_toArray, List.set_cons_zero, List.set_cons_succ]
    refine wpAnyL_ready (rs := [1]) (by kernel_rfl) (by simp) ?_
    refine AllReadyL.cons rfl (fun K hK => ?_) AllReadyL.nil
    simp only [List.getElem_toArray, List.getElem_cons_succ, List.getElem_cons_zero]
    go_simp
    refine hK.out _ _ (KQ.out _ (((Fr.refl [] w9).alloc _).drew)) (fun hHeld => ?_)
    clear hK K
    try simp only [List.getElem_toArray, List.getElem_cons_succ, List.getElem_cons_zero, Act.put, List.setIfInBounds_toArray, List.set_cons_zero, List.set_cons_succ]
    obtain ⟨wa, hwa⟩ : ∃ v, (w9.alloc (.cells #[] 125)).drew = v := ⟨_, rfl⟩
    rw [hwa]
    have FA := Lib.hid (show Fr [] w9 wa by rw [← hwa]; exact ((Fr.refl [] w9).alloc _).drew)
    have OE := Lib.hid (show wa.ownsRow w9.heap.size 125 5 (.slice (some ⟨w9.heap.size, 0, none⟩) 0 0) 0 [] by rw [← hwa]; exact own_frS (own_empty w9 125 5) (Fr.refl [] _).drew (by simp))
    have hwas : w9.heap.size ≤ wa.heap.size := FA.out.size
    obtain ⟨e9, he9⟩ : ∃ b, w9.heap.size = b := ⟨_, rfl⟩
    first | rw [show w9.drew.heap.size = e9 from he9] | rw [he9]
    rw [he9] at OE hwas
    have NW := Lib.hid (fun j u (hj : (flatC R.cs n)[j]? = some u) => flatC_cell (C := R.cs) (k := 5) (b := g) (o := 0) (n := n) (fun i => rnd_len _) (by omega) (fun i hi jj v hv => by rw [Nat.zero_add]; exact cell_fr' (ND.out i hi jj v hv) (F9.out.trans FA.out (by simp))) j u hj)
    have NW2 := Lib.hid (fun j u (hj : (flatC R.cs n)[j]? = some u) => (by rw [Addr_add]; exact NW.out j u hj : wa.cell? ((⟨g, 0, none⟩ : Addr).add j) = some u))
    clear hwa
    refine wpAnyL_ready (rs := [6]) (by kernel_rfl) (by simp) ?_
    refine AllReadyL.cons rfl (fun K hK => ?_) AllReadyL.nil
    refine step_append_rows rfl (.tmp 80) (.tmp 84) 88 125 5 56 rfl Try.underlying88 (by kernel_rfl) (by decide) (by decide) e9 (.slice (some ⟨e9, 0, none⟩) 0 0) 0 _ rfl OE.out ⟨g, 0, none⟩ n c (flatC R.cs n) rfl (flatC_length (C := R.cs) (k := 5) (fun i => rnd_len _) n) NW2.out (flatC_one (C := R.cs) (fun i => rnd_one _) n) (by omega) (by omega) ?_
    intro vb wb hownb hgrb horb
    have FB := Lib.hid ((FA.out.trans (fr_grown hgrb) (fun y hy => by simp [Value.ownBlock] at hy; rw [hy, ← he9]; exact .inr (Nat.le_refl _))) : Fr [] w9 wb)
    refine hK.out _ _ (KQ.out _ FB.out) (fun hHeld => ?_)
    clear hK K
    try simp only [List.getElem_toArray, List.getElem_cons_succ, List.getElem_cons_zero, Act.put, List.setIfInBounds_toArray, List.set_cons_zero, List.set_cons_succ]
    obtain ⟨gb, cb, hvb, hgb1, hgb2⟩ := hownb.form (by omega)
    have OB := Lib.hid (show wb.ownsRow e9 125 5 vb n (flatC R.cs n) by have := hownb; rw [Nat.zero_add, List.nil_append] at this; exact this)
    rw [Nat.zero_add] at hvb
    subst hvb
    have hgb3 : gb < wb.heap.size := hgb2
    clear hownb hgrb horb
    refine wpAnyL_ready (rs := [19]) (by kernel_rfl) (by simp) ?_
    refine AllReadyL.cons rfl (fun K hK => ?_) AllReadyL.nil
    simp only [List.getElem_toArray, List.getElem_cons_succ, List.getElem_cons_zero]
    go_simp
    go_wp2_with (first | (go_at_call 28; refine (D7.out _ FB.out).mono ?_; rintro e wc ⟨a7, c7, rfl, hM7, hFc, hfr7⟩))
    have FC := Lib.hid (FB.out.trans hFc (by simp))
    refine hK.out _ _ (KQ.out _ FC.out) (fun hHeld => ?_)
    clear hK K
    try simp only [List.getElem_toArray, List.getElem_cons_succ, List.getElem_cons_zero, Act.put, List.setIfInBounds_toArray, List.set_cons_zero, List.set_cons_succ]
    have OC := Lib.hid (own_frS OB.out hFc (by simp))
    have M7 := Lib.hid hM7
    have hbc : wb.heap.size ≤ wc.heap.size := hFc.size
    have A7 := Lib.hid (fun q (hq : Holds a7 fq.en q) => (by obtain ⟨_, o, ho⟩ := hq; have := hfr7 q o ho; have hw := FB.out.size; exact ⟨by omega, by omega, hM7.2.holds ⟨by assumption, o, ho⟩⟩ : w9.heap.size ≤ q ∧ gb < q ∧ q < wc.heap.size))
    clear hM7 hFc hfr7
    refine wpAnyL_take (i := 20) (v := ?_) rfl (by kernel_rfl) (by kernel_rfl) (by kernel_rfl) (by kernel_rfl) (fun _ _ _ h => h) (Or.inl ⟨rfl, ?_⟩) hHeld ?_
    rotate_left
    · (intro w hSw; (try dsimp only at hSw); go_simp; try (with_reducible rfl))
    simp only [List.getElem_toArray, List.getElem_cons_succ, List.getElem_cons_zero, Act.put, List.setIfInBounds_toArray, List.set_cons_zero, List.set_cons_succ]
    refine wpAnyL_ready (rs := [21]) (by kernel_rfl) (by simp) ?_
    refine AllReadyL.cons rfl (fun K hK => ?_) AllReadyL.nil
    simp only [List.getElem_toArray, List.getElem_cons_succ, List.getElem_cons_zero]
    go_simp
    refine hK.out _ _ (KQ.out _ (FC.out.alloc _)) (fun hHeld => ?_)
    clear hK K
    try simp only [List.getElem_toArray, List.getElem_cons_succ, List.getElem_cons_zero, Act.put, List.setIfInBounds_toArray, List.set_cons_zero, List.set_cons_succ]
    obtain ⟨wd, hwd⟩ : ∃ v, wc.alloc (.cells #[.bool true, .int .i64 (tq : Nat), .int .i64 k, .int .i64 at', .slice a7 fq.en c7] 125) = v := ⟨_, rfl⟩
    rw [hwd]
    have FD := Lib.hid (show Fr [] w9 wd by rw [← hwd]; exact FC.out.alloc _)
    have hcd : Fr [] wc wd := by rw [← hwd]; exact (Fr.refl [] wc).alloc _
    have OD := Lib.hid (own_frS OC.out hcd (by simp))
    have MD := Lib.hid (M7.out.fr hcd)
    have NW3 := Lib.hid (show ∀ j u, ([.bool true, .int .i64 (tq : Nat), .int .i64 k, .int .i64 at', .slice a7 fq.en c7] : List Value)[j]? = some u → wd.cell? ((⟨wc.heap.size, 0, none⟩ : Addr).add j) = some u by
      intro j u hj
      rw [Addr_add, Nat.zero_add, ← hwd]
      exact ((Row.new wc [.bool true, .int .i64 (tq : Nat), .int .i64 k, .int .i64 at', .slice a7 fq.en c7] 125).cell j).trans hj)
    have hwds : e9 ≤ wd.heap.size := by have := FD.out.size; omega
    have hwcs : wc.heap.size ≤ wd.heap.size := hcd.size
    clear hwd hcd
    refine wpAnyL_ready (rs := [22]) (by kernel_rfl) (by simp) ?_
    refine AllReadyL.cons rfl (fun K hK => ?_) AllReadyL.nil
    refine step_append_rows rfl (.tmp 85) (.tmp 100) 88 125 5 56 rfl Try.underlying88 (by kernel_rfl) (by decide) (by decide) e9 (.slice (some ⟨gb, 0, none⟩) n cb) n _ rfl OD.out ⟨wc.heap.size, 0, none⟩ 1 1 [.bool true, .int .i64 (tq : Nat), .int .i64 k, .int .i64 at', .slice a7 fq.en c7] rfl rfl NW3.out (by intro u hu; simp at hu; rcases hu with rfl | rfl | rfl | rfl | rfl <;> rfl) (by omega) (by omega) ?_
    intro ve we howne hgre hore
    have FE := Lib.hid ((FD.out.trans (fr_grown hgre) (fun y hy => by simp [Value.ownBlock] at hy; rw [hy]; exact .inr (by omega))) : Fr [] w9 we)
    refine hK.out _ _ (KQ.out _ FE.out) (fun hHeld => ?_)
    clear hK K
    try simp only [List.getElem_toArray, List.getElem_cons_succ, List.getElem_cons_zero, Act.put, List.setIfInBounds_toArray, List.set_cons_zero, List.set_cons_succ]
    obtain ⟨ge, ce, hve, hge1, _⟩ := howne.form (by omega)
    have MEE := Lib.hid (MD.out.frB (fr_grown hgre) (fun h0 q o hq hqs => by simp [Value.ownBlock] at hqs; have := A7.out q ⟨h0, o, hq⟩; omega))
    subst hve
    have AE := Lib.hid (fun q (hq : Holds a7 fq.en q) => (by
      have h1 := A7.out q hq
      rcases hore with h2 | h2
      · simp [Value.ownBlock] at h2
        simp [Value.ownBlock]
        omega
      · simp [Value.ownBlock] at h2
        simp [Value.ownBlock]
        omega : (Value.slice (some ⟨ge, 0, none⟩) (n + 1) ce).ownBlock ≠ some q))
    have OWE := Lib.hid howne
    clear howne hgre hore
    refine wpAnyL_ready (rs := [23]) (by kernel_rfl) (by simp) ?_
    refine AllReadyL.cons rfl (fun K hK => ?_) AllReadyL.nil
    simp only [List.getElem_toArray, List.getElem_cons_succ, List.getElem_cons_zero]
    go_simp
    refine hK.out _ _ (hHeld) (fun hHeld => ?_)
    clear hK K
    try simp only [List.getElem_toArray, List.getElem_cons_succ, List.getElem_cons_zero, Act.put, List.setIfInBounds_toArray, List.set_cons_zero, List.set_cons_succ]
    refine wpAnyL_take (i := 24) (v := ?_) rfl (by kernel_rfl) (by kernel_rfl) (by kernel_rfl) (by kernel_rfl) (fun _ _ _ h => h) (Or.inl ⟨rfl, ?_⟩) hHeld ?_
    rotate_left
    · (intro w hSw; (try dsimp only at hSw); go_simp; try (with_reducible rfl))
    simp only [List.getElem_toArray, List.getElem_cons_succ, List.getElem_cons_zero, Act.put, List.setIfInBounds_toArray, List.set_cons_zero, List.set_cons_succ]
    have z2 := hHeld.2.1
    have y2 : we.frozen? ⟨rb, 2, none⟩ = false := (HH.out.head.fr (F9.out.trans FE.out (by simp)) (by simp)).frozen 2
    refine wpAnyL_ready (rs := [25]) (by kernel_rfl) (by simp) ?_
    refine AllReadyL.end_ rfl (fun K hK => ?_)
    simp only [List.getElem_toArray, List.getElem_cons_succ, List.getElem_cons_zero]
    go_simp
    refine hK.out _ _ ?_
    clear hK K
    try simp only [List.getElem_toArray, List.getElem_cons_succ, List.getElem_cons_zero, Act.put, List.setIfInBounds_toArray, List.set_cons_zero, List.set_cons_succ]
    refine wpAnyL_done (by kernel_rfl) ?_ _
    have N1 := Lib.hid (show NextR rb R (R.push (.slice (some ⟨ge, 0, none⟩) (n + 1) ce) ⟨true, tq, k, at', a7, c7, fq.E.map startM⟩) w (we.setCell ⟨rb, 2, none⟩ (.slice (some ⟨ge, 0, none⟩) (n + 1) ce)) from by
      have hml : (fq.E.map startM).length = fq.en := by rw [List.length_map]; exact HEL.out
      refine push_fin (B := e9) HH.out (F9.out.trans FE.out (by simp)) ?_ (by have := F9.out.size; omega) ?_ ?_ (by rw [← HN.out]; omega)
      · rw [← HN.out]
        unfold RND.cells
        simp only
        rw [hml]
        exact OWE.out
      · show MarksAt we a7 (fq.E.map startM).length (fq.E.map startM)
        rw [hml]
        exact MEE.out
      · intro q hq
        have hq' : Holds a7 fq.en q := by have := hq; rw [show (RND.m ⟨true, tq, k, at', a7, c7, fq.E.map startM⟩).length = fq.en from hml] at this; exact this
        exact ⟨by have := (A7.out q hq').1; have := F9.out.size; omega, AE.out q hq'⟩)
    have HP := Lib.hid (push_pl R (.slice (some ⟨ge, 0, none⟩) (n + 1) ce) ⟨true, tq, k, at', a7, c7, fq.E.map startM⟩ rfl)
    obtain ⟨wf, hwf⟩ : ∃ v, we.setCell ⟨rb, 2, none⟩ (.slice (some ⟨ge, 0, none⟩) (n + 1) ce) = v := ⟨_, rfl⟩
    rw [hwf] at N1 ⊢
    have e2 : wf.cell? ⟨rb, 2, none⟩ = some (.slice (some ⟨ge, 0, none⟩) (n + 1) ce) := N1.out.1.head.cell 2
    clear hwf z2 y2 hHeld KQ D7
    go_wp2_with fail
    go_ret2
    refine ⟨_, ?_, by rw [E2.out]; exact HP.out, N1.out⟩
    rw [E2.out]
    show _ = Ending.returned (.tuple #[.int .i64 (R.L.length : Nat), .int .i64 0])
    rw [← HN.out]
    first | rfl | (congr 4; omega)
  · subst hmt
    have d5 : decide ((kn : Int) > 0) = false := decide_eq_false (by omega)
    have d5' : decide (0 < kn) = false := decide_eq_false (by omega)
    clear hk0 W8
    go_wp2_with fail
    refine (CK.out _ F7.out).mono ?_
    rintro e w8 ⟨ak, ck, rfl, _, _, hF⟩
    have F8 := Lib.hid (F7.out.trans hF (by simp))
    have Q28 := Lib.hid (cell_fr' Q2.out hF)
    clear hF
    go_wp2_with fail
    refine (CL.out _ F8.out).mono ?_
    rintro e w9 ⟨al, cl, rfl, _, _, hF⟩
    have F9 := Lib.hid (F8.out.trans hF (by simp))
    have Q29 := Lib.hid (cell_fr' Q28.out hF)
    clear hF CK CL
    by_cases h40 : 40 ≤ ln
    · have d6 : decide ((ln : Int) ≥ 40) = true := decide_eq_true (by omega)
      have E2 := Lib.hid (show doF R.pl (k : Int) at' = (0, 4, R.pl) by rw [E3.out, if_pos h40])
      clear h40
      go_wp2_with fail
      go_ret2
      exact ⟨R, by rw [E2.out]; rfl, by rw [E2.out], .refl HH.out F9.out⟩
    have d6 : decide ((ln : Int) ≥ 40) = false := decide_eq_false (by omega)
    obtain ⟨fq, hfq⟩ : ∃ f, R.Fs.getD tq default = f := ⟨_, rfl⟩
    have hfqm : fq ∈ R.Fs := by rw [← hfq]; exact getD_memD _ _ (by rw [← HNF.out]; exact htqf)
    have heq := HH.out.en fq hfqm
    have hcfq := HCT.out tq htqf
    rw [hfq] at hcfq
    have E2 := Lib.hid (show doF R.pl (k : Int) at' = ((R.pl.next : Int), (0 : Int), ({ R.pl with L := R.pl.L ++ [⟨R.pl.next, tq, fq.E.map startM, k, at'⟩], next := R.pl.next + 1 } : PT)) by
      rw [E3.out, if_neg h40, HTQ.out, Int.toNat_natCast, show R.pl.Fs.getD tq default = fq.nrm by rw [← hfq]; exact getD_nrm _ _]
      rfl)
    have FQ := Lib.hid (HH.out.flats fq hfqm)
    have HEL := Lib.hid (HH.out.flats fq hfqm).evs.1
    have u0 : w.cell? ⟨gt, ot + tq * 2, none⟩ = some (.slice fq.ea fq.en fq.ec) := hcfq 0 _ rfl
    have u1 : w.cell? ⟨gt, ot + tq * 2 + 1, none⟩ = some (.slice fq.ta fq.tn fq.tc) := hcfq 1 _ rfl
    have dq : decide (tq < nf) = true := decide_eq_true htqf
    have KQ := Lib.hid (fun w' (f' : Fr [] w9 w') => (⟨cell_fr' (cell_fr' RR.out.1 F9.out) f', cell_fr' (cell_fr' RR.out.2.2.1 F9.out) f', cell_fr' Q29.out f', cell_fr' (cell_fr' u0 F9.out) f', cell_fr' (cell_fr' u1 F9.out) f'⟩ : w'.cell? ⟨rb, 0, none⟩ = some (.slice (some ⟨gt, ot, none⟩) nf R.fc) ∧ w'.cell? ⟨rb, 2, none⟩ = some (.slice (some ⟨g, 0, none⟩) n c) ∧ w'.cell? ⟨c12, 2, none⟩ = some (.int .i64 (tq : Nat)) ∧ w'.cell? ⟨gt, ot + tq * 2, none⟩ = some (.slice fq.ea fq.en fq.ec) ∧ w'.cell? ⟨gt, ot + tq * 2 + 1, none⟩ = some (.slice fq.ta fq.tn fq.tc)))
    have D7 := Lib.hid (fun w' (g' : Fr [] w9 w') => rstart_fresh fq w' ((FQ.out.fr F9.out).fr g'))
    unfold FlatD.val at D7
    unfold MarkedF at D7
    clear hfq hfqm hcfq h40 u0 u1 q3
    go_wp2_with fail
    refine wp_region_last (S := (fun w' => w'.cell? ⟨rb, 0, none⟩ = some (.slice (some ⟨gt, ot, none⟩) nf R.fc) ∧ w'.cell? ⟨rb, 2, none⟩ = some (.slice (some ⟨g, 0, none⟩) n c) ∧ w'.cell? ⟨c12, 2, none⟩ = some (.int .i64 (tq : Nat)) ∧ w'.cell? ⟨gt, ot + tq * 2, none⟩ = some (.slice fq.ea fq.en fq.ec) ∧ w'.cell? ⟨gt, ot + tq * 2 + 1, none⟩ = some (.slice fq.ta fq.tn fq.tc))) 25 (by kernel_rfl) (KQ.out _ ((Fr.refl [] w9).drew)) (fun hHeld => ?_)
    refine wpAnyL_take (i := 0) (v := ?_) rfl (by kernel_rfl) (by kernel_rfl) (by kernel_rfl) (by kernel_rfl) (fun _ _ _ h => h) (Or.inl ⟨rfl, ?_⟩) hHeld ?_
    rotate_left
    · (intro w hSw; (try dsimp only at hSw); go_simp; try (with_reducible rfl))
    simp only [List.getElem_toArray, List.getElem_cons_succ, List.getElem_cons_zero, Act.put, List.setIfInBounds_toArray, List.set_cons_zero, List.set_cons_succ]
    refine wpAnyL_take (i := 2) (v := ?_) rfl (by kernel_rfl) (by kernel_rfl) (by kernel_rfl) (by kernel_rfl) (fun _ _ _ h => h) (Or.inl ⟨rfl, ?_⟩) hHeld ?_
    rotate_left
    · (intro w hSw; (try dsimp only at hSw); go_simp; try (with_reducible rfl))
    simp only [List.getElem_toArray, List.getElem_cons_succ, List.getElem_cons_zero, Act.put, List.setIfInBounds_toArray, List.set_cons_zero, List.set_cons_succ]
    refine wpAnyL_take (i := 3) (v := ?_) rfl (by kernel_rfl) (by kernel_rfl) (by kernel_rfl) (by kernel_rfl) (fun _ _ _ h => h) (Or.inl ⟨rfl, ?_⟩) hHeld ?_
    rotate_left
    · (intro w hSw; (try dsimp only at hSw); go_simp; try (with_reducible rfl))
    simp only [List.getElem_toArray, List.getElem_cons_succ, List.getElem_cons_zero, Act.put, List.setIfInBounds_toArray, List.set_cons_zero, List.set_cons_succ]
    refine wpAnyL_take (i := 4) (v := ?_) rfl (by kernel_rfl) (by kernel_rfl) (by kernel_rfl) (by kernel_rfl) (fun _ _ _ h => h) (Or.inl ⟨rfl, ?_⟩) hHeld ?_
    rotate_left
    · (intro w hSw; (try dsimp only at hSw); go_simp; try (with_reducible rfl))
    simp only [List.getElem_toArray, List.getElem_cons_succ, List.getElem_cons_zero, Act.put, List.setIfInBounds_toArray, List.set_cons_zero, List.set_cons_succ]
    refine wpAnyL_take (i := 5) (v := ?_) rfl (by kernel_rfl) (by kernel_rfl) (by kernel_rfl) (by kernel_rfl) (fun _ _ _ h => h) (Or.inl ⟨rfl, ?_⟩) hHeld ?_
    rotate_left
    · (intro w hSw; (try dsimp only at hSw); go_simp; try (with_reducible rfl))
    simp only [List.getElem_toArray, List.getElem_cons_succ, List.getElem_cons_zero, Act.put, List.setIfInBounds_toArray, List.set_cons_zero, List.set_cons_succ]
    refine wpAnyL_take (i := 7) (v := ?_) rfl (by kernel_rfl) (by kernel_rfl) (by kernel_rfl) (by kernel_rfl) (fun _ _ _ h => h) (Or.inl ⟨rfl, ?_⟩) hHeld ?_
    rotate_left
    · (intro w hSw; (try dsimp only at hSw); go_simp; try (with_reducible rfl))
    simp only [List.getElem_toArray, List.getElem_cons_succ, List.getElem_cons_zero, Act.put, List.setIfInBounds_toArray, List.set_cons_zero, List.set_cons_succ]
    refine wpAnyL_take (i := 8) (v := ?_) rfl (by kernel_rfl) (by kernel_rfl) (by kernel_rfl) (by kernel_rfl) (fun _ _ _ h => h) (Or.inl ⟨rfl, ?_⟩) hHeld ?_
    rotate_left
    · (intro w hSw; (try dsimp only at hSw); go_simp; try (with_reducible rfl))
    simp only [List.getElem_toArray, List.getElem_cons_succ, List.getElem_cons_zero, Act.put, List.setIfInBounds_toArray, List.set_cons_zero, List.set_cons_succ]
    refine wpAnyL_take (i := 9) (v := ?_) rfl (by kernel_rfl) (by kernel_rfl) (by kernel_rfl) (by kernel_rfl) (fun _ _ _ h => h) (Or.inl ⟨rfl, ?_⟩) hHeld ?_
    rotate_left
    · (intro w hSw; (try dsimp only at hSw); go_simp; try (with_reducible rfl))
    simp only [List.getElem_toArray, List.getElem_cons_succ, List.getElem_cons_zero, Act.put, List.setIfInBounds_toArray, List.set_cons_zero, List.set_cons_succ]
    refine wpAnyL_take (i := 10) (v := ?_) rfl (by kernel_rfl) (by kernel_rfl) (by kernel_rfl) (by kernel_rfl) (fun _ _ _ h => h) (Or.inl ⟨rfl, ?_⟩) hHeld ?_
    rotate_left
    · (intro w hSw; (try dsimp only at hSw); go_simp; try (with_reducible rfl))
    simp only [List.getElem_toArray, List.getElem_cons_succ, List.getElem_cons_zero, Act.put, List.setIfInBounds_toArray, List.set_cons_zero, List.set_cons_succ]
    refine wpAnyL_take (i := 11) (v := ?_) rfl (by kernel_rfl) (by kernel_rfl) (by kernel_rfl) (by kernel_rfl) (fun _ _ _ h => h) (Or.inl ⟨rfl, ?_⟩) hHeld ?_
    rotate_left
    · (intro w hSw; (try dsimp only at hSw); go_simp; try (with_reducible rfl))
    simp only [List.getElem_toArray, List.getElem_cons_succ, List.getElem_cons_zero, Act.put, List.setIfInBounds_toArray, List.set_cons_zero, List.set_cons_succ]
    refine wpAnyL_take (i := 12) (v := ?_) rfl (by kernel_rfl) (by kernel_rfl) (by kernel_rfl) (by kernel_rfl) (fun _ _ _ h => h) (Or.inl ⟨rfl, ?_⟩) hHeld ?_
    rotate_left
    · (intro w hSw; (try dsimp only at hSw); go_simp; try (with_reducible rfl))
    simp only [List.getElem_toArray, List.getElem_cons_succ, List.getElem_cons_zero, Act.put, List.setIfInBounds_toArray, List.set_cons_zero, List.set_cons_succ]
    refine wpAnyL_take (i := 13) (v := ?_) rfl (by kernel_rfl) (by kernel_rfl) (by kernel_rfl) (by kernel_rfl) (fun _ _ _ h => h) (Or.inl ⟨rfl, ?_⟩) hHeld ?_
    rotate_left
    · (intro w hSw; (try dsimp only at hSw); go_simp; try (with_reducible rfl))
    simp only [List.getElem_toArray, List.getElem_cons_succ, List.getElem_cons_zero, Act.put, List.setIfInBounds_toArray, List.set_cons_zero, List.set_cons_succ]
    refine wpAnyL_take (i := 14) (v := ?_) rfl (by kernel_rfl) (by kernel_rfl) (by kernel_rfl) (by kernel_rfl) (fun _ _ _ h => h) (Or.inl ⟨rfl, ?_⟩) hHeld ?_
    rotate_left
    · (intro w hSw; (try dsimp only at hSw); go_simp; try (with_reducible rfl))
    simp only [List.getElem_toArray, List.getElem_cons_succ, List.getElem_cons_zero, Act.put, List.setIfInBounds_toArray, List.set_cons_zero, List.set_cons_succ]
    refine wpAnyL_take (i := 15) (v := ?_) rfl (by kernel_rfl) (by kernel_rfl) (by kernel_rfl) (by kernel_rfl) (fun _ _ _ h => h) (Or.inl ⟨rfl, ?_⟩) hHeld ?_
    rotate_left
    · (intro w hSw; (try dsimp only at hSw); go_simp; try (with_reducible rfl))
    simp only [List.getElem_toArray, List.getElem_cons_succ, List.getElem_cons_zero, Act.put, List.setIfInBounds_toArray, List.set_cons_zero, List.set_cons_succ]
    refine wpAnyL_take (i := 16) (v := ?_) rfl (by kernel_rfl) (by kernel_rfl) (by kernel_rfl) (by kernel_rfl) (fun _ _ _ h => h) (Or.inl ⟨rfl, ?_⟩) hHeld ?_
    rotate_left
    · (intro w hSw; (try dsimp only at hSw); go_simp; try (with_reducible rfl))
    simp only [List.getElem_toArray, List.getElem_cons_succ, List.getElem_cons_zero, Act.put, List.setIfInBounds_toArray, List.set_cons_zero, List.set_cons_succ]
    refine wpAnyL_take (i := 17) (v := ?_) rfl (by kernel_rfl) (by kernel_rfl) (by kernel_rfl) (by kernel_rfl) (fun _ _ _ h => h) (Or.inl ⟨rfl, ?_⟩) hHeld ?_
    rotate_left
    · (intro w hSw; (try dsimp only at hSw); go_simp; try (with_reducible rfl))
    simp only [List.getElem_toArray, List.getElem_cons_succ, List.getElem_cons_zero, Act.put, List.setIfInBounds_toArray, List.set_cons_zero, List.set_cons_succ]
    refine wpAnyL_take (i := 18) (v := ?_) rfl (by kernel_rfl) (by kernel_rfl) (by kernel_rfl) (by kernel_rfl) (fun _ _ _ h => h) (Or.inl ⟨rfl, ?_⟩) hHeld ?_
    rotate_left
    · (intro w hSw; (try dsimp only at hSw); go_simp; try (with_reducible rfl))
    simp only [List.getElem_toArray, List.getElem_cons_succ, List.getElem_cons_zero, Act.put, List.setIfInBounds_toArray, List.set_cons_zero, List.set_cons_succ]
    refine wpAnyL_ready (rs := [1]) (by kernel_rfl) (by simp) ?_
    refine AllReadyL.cons rfl (fun K hK => ?_) AllReadyL.nil
    simp only [List.getElem_toArray, List.getElem_cons_succ, List.getElem_cons_zero]
    go_simp
    refine hK.out _ _ (KQ.out _ (((Fr.refl [] w9).alloc _).drew)) (fun hHeld => ?_)
    clear hK K
    try simp only [List.getElem_toArray, List.getElem_cons_succ, List.getElem_cons_zero, Act.put, List.setIfInBounds_toArray, List.set_cons_zero, List.set_cons_succ]
    obtain ⟨wa, hwa⟩ : ∃ v, (w9.alloc (.cells #[] 125)).drew = v := ⟨_, rfl⟩
    rw [hwa]
    have FA := Lib.hid (show Fr [] w9 wa by rw [← hwa]; exact ((Fr.refl [] w9).alloc _).drew)
    have OE := Lib.hid (show wa.ownsRow w9.heap.size 125 5 (.slice (some ⟨w9.heap.size, 0, none⟩) 0 0) 0 [] by rw [← hwa]; exact own_frS (own_empty w9 125 5) (Fr.refl [] _).drew (by simp))
    have hwas : w9.heap.size ≤ wa.heap.size := FA.out.size
    obtain ⟨e9, he9⟩ : ∃ b, w9.heap.size = b := ⟨_, rfl⟩
    first | rw [show w9.drew.heap.size = e9 from he9] | rw [he9]
    rw [he9] at OE hwas
    have NW := Lib.hid (fun j u (hj : (flatC R.cs n)[j]? = some u) => flatC_cell (C := R.cs) (k := 5) (b := g) (o := 0) (n := n) (fun i => rnd_len _) (by omega) (fun i hi jj v hv => by rw [Nat.zero_add]; exact cell_fr' (ND.out i hi jj v hv) (F9.out.trans FA.out (by simp))) j u hj)
    have NW2 := Lib.hid (fun j u (hj : (flatC R.cs n)[j]? = some u) => (by rw [Addr_add]; exact NW.out j u hj : wa.cell? ((⟨g, 0, none⟩ : Addr).add j) = some u))
    clear hwa
    refine wpAnyL_ready (rs := [6]) (by kernel_rfl) (by simp) ?_
    refine AllReadyL.cons rfl (fun K hK => ?_) AllReadyL.nil
    refine step_append_rows rfl (.tmp 80) (.tmp 84) 88 125 5 56 rfl Try.underlying88 (by kernel_rfl) (by decide) (by decide) e9 (.slice (some ⟨e9, 0, none⟩) 0 0) 0 _ rfl OE.out ⟨g, 0, none⟩ n c (flatC R.cs n) rfl (flatC_length (C := R.cs) (k := 5) (fun i => rnd_len _) n) NW2.out (flatC_one (C := R.cs) (fun i => rnd_one _) n) (by omega) (by omega) ?_
    intro vb wb hownb hgrb horb
    have FB := Lib.hid ((FA.out.trans (fr_grown hgrb) (fun y hy => by simp [Value.ownBlock] at hy; rw [hy, ← he9]; exact .inr (Nat.le_refl _))) : Fr [] w9 wb)
    refine hK.out _ _ (KQ.out _ FB.out) (fun hHeld => ?_)
    clear hK K
    try simp only [List.getElem_toArray, List.getElem_cons_succ, List.getElem_cons_zero, Act.put, List.setIfInBounds_toArray, List.set_cons_zero, List.set_cons_succ]
    obtain ⟨gb, cb, hvb, hgb1, hgb2⟩ := hownb.form (by omega)
    have OB := Lib.hid (show wb.ownsRow e9 125 5 vb n (flatC R.cs n) by have := hownb; rw [Nat.zero_add, List.nil_append] at this; exact this)
    rw [Nat.zero_add] at hvb
    subst hvb
    have hgb3 : gb < wb.heap.size := hgb2
    clear hownb hgrb horb
    refine wpAnyL_ready (rs := [19]) (by kernel_rfl) (by simp) ?_
    refine AllReadyL.cons rfl (fun K hK => ?_) AllReadyL.nil
    simp only [List.getElem_toArray, List.getElem_cons_succ, List.getElem_cons_zero]
    go_simp
    go_wp2_with (first | (go_at_call 28; refine (D7.out _ FB.out).mono ?_; rintro e wc ⟨a7, c7, rfl, hM7, hFc, hfr7⟩))
    have FC := Lib.hid (FB.out.trans hFc (by simp))
    refine hK.out _ _ (KQ.out _ FC.out) (fun hHeld => ?_)
    clear hK K
    try simp only [List.getElem_toArray, List.getElem_cons_succ, List.getElem_cons_zero, Act.put, List.setIfInBounds_toArray, List.set_cons_zero, List.set_cons_succ]
    have OC := Lib.hid (own_frS OB.out hFc (by simp))
    have M7 := Lib.hid hM7
    have hbc : wb.heap.size ≤ wc.heap.size := hFc.size
    have A7 := Lib.hid (fun q (hq : Holds a7 fq.en q) => (by obtain ⟨_, o, ho⟩ := hq; have := hfr7 q o ho; have hw := FB.out.size; exact ⟨by omega, by omega, hM7.2.holds ⟨by assumption, o, ho⟩⟩ : w9.heap.size ≤ q ∧ gb < q ∧ q < wc.heap.size))
    clear hM7 hFc hfr7
    refine wpAnyL_take (i := 20) (v := ?_) rfl (by kernel_rfl) (by kernel_rfl) (by kernel_rfl) (by kernel_rfl) (fun _ _ _ h => h) (Or.inl ⟨rfl, ?_⟩) hHeld ?_
    rotate_left
    · (intro w hSw; (try dsimp only at hSw); go_simp; try (with_reducible rfl))
    simp only [List.getElem_toArray, List.getElem_cons_succ, List.getElem_cons_zero, Act.put, List.setIfInBounds_toArray, List.set_cons_zero, List.set_cons_succ]
    refine wpAnyL_ready (rs := [21]) (by kernel_rfl) (by simp) ?_
    refine AllReadyL.cons rfl (fun K hK => ?_) AllReadyL.nil
    simp only [List.getElem_toArray, List.getElem_cons_succ, List.getElem_cons_zero]
    go_simp
    refine hK.out _ _ (KQ.out _ (FC.out.alloc _)) (fun hHeld => ?_)
    clear hK K
    try simp only [List.getElem_toArray, List.getElem_cons_succ, List.getElem_cons_zero, Act.put, List.setIfInBounds_toArray, List.set_cons_zero, List.set_cons_succ]
    obtain ⟨wd, hwd⟩ : ∃ v, wc.alloc (.cells #[.bool true, .int .i64 (tq : Nat), .int .i64 k, .int .i64 at', .slice a7 fq.en c7] 125) = v := ⟨_, rfl⟩
    rw [hwd]
    have FD := Lib.hid (show Fr [] w9 wd by rw [← hwd]; exact FC.out.alloc _)
    have hcd : Fr [] wc wd := by rw [← hwd]; exact (Fr.refl [] wc).alloc _
    have OD := Lib.hid (own_frS OC.out hcd (by simp))
    have MD := Lib.hid (M7.out.fr hcd)
    have NW3 := Lib.hid (show ∀ j u, ([.bool true, .int .i64 (tq : Nat), .int .i64 k, .int .i64 at', .slice a7 fq.en c7] : List Value)[j]? = some u → wd.cell? ((⟨wc.heap.size, 0, none⟩ : Addr).add j) = some u by
      intro j u hj
      rw [Addr_add, Nat.zero_add, ← hwd]
      exact ((Row.new wc [.bool true, .int .i64 (tq : Nat), .int .i64 k, .int .i64 at', .slice a7 fq.en c7] 125).cell j).trans hj)
    have hwds : e9 ≤ wd.heap.size := by have := FD.out.size; omega
    have hwcs : wc.heap.size ≤ wd.heap.size := hcd.size
    clear hwd hcd
    refine wpAnyL_ready (rs := [22]) (by kernel_rfl) (by simp) ?_
    refine AllReadyL.cons rfl (fun K hK => ?_) AllReadyL.nil
    refine step_append_rows rfl (.tmp 85) (.tmp 100) 88 125 5 56 rfl Try.underlying88 (by kernel_rfl) (by decide) (by decide) e9 (.slice (some ⟨gb, 0, none⟩) n cb) n _ rfl OD.out ⟨wc.heap.size, 0, none⟩ 1 1 [.bool true, .int .i64 (tq : Nat), .int .i64 k, .int .i64 at', .slice a7 fq.en c7] rfl rfl NW3.out (by intro u hu; simp at hu; rcases hu with rfl | rfl | rfl | rfl | rfl <;> rfl) (by omega) (by omega) ?_
    intro ve we howne hgre hore
    have FE := Lib.hid ((FD.out.trans (fr_grown hgre) (fun y hy => by simp [Value.ownBlock] at hy; rw [hy]; exact .inr (by omega))) : Fr [] w9 we)
    refine hK.out _ _ (KQ.out _ FE.out) (fun hHeld => ?_)
    clear hK K
    try simp only [List.getElem_toArray, List.getElem_cons_succ, List.getElem_cons_zero, Act.put, List.setIfInBounds_toArray, List.set_cons_zero, List.set_cons_succ]
    obtain ⟨ge, ce, hve, hge1, _⟩ := howne.form (by omega)
    have MEE := Lib.hid (MD.out.frB (fr_grown hgre) (fun h0 q o hq hqs => by simp [Value.ownBlock] at hqs; have := A7.out q ⟨h0, o, hq⟩; omega))
    subst hve
    have AE := Lib.hid (fun q (hq : Holds a7 fq.en q) => (by
      have h1 := A7.out q hq
      rcases hore with h2 | h2
      · simp [Value.ownBlock] at h2
        simp [Value.ownBlock]
        omega
      · simp [Value.ownBlock] at h2
        simp [Value.ownBlock]
        omega : (Value.slice (some ⟨ge, 0, none⟩) (n + 1) ce).ownBlock ≠ some q))
    have OWE := Lib.hid howne
    clear howne hgre hore
    refine wpAnyL_ready (rs := [23]) (by kernel_rfl) (by simp) ?_
    refine AllReadyL.cons rfl (fun K hK => ?_) AllReadyL.nil
    simp only [List.getElem_toArray, List.getElem_cons_succ, List.getElem_cons_zero]
    go_simp
    refine hK.out _ _ (hHeld) (fun hHeld => ?_)
    clear hK K
    try simp only [List.getElem_toArray, List.getElem_cons_succ, List.getElem_cons_zero, Act.put, List.setIfInBounds_toArray, List.set_cons_zero, List.set_cons_succ]
    refine wpAnyL_take (i := 24) (v := ?_) rfl (by kernel_rfl) (by kernel_rfl) (by kernel_rfl) (by kernel_rfl) (fun _ _ _ h => h) (Or.inl ⟨rfl, ?_⟩) hHeld ?_
    rotate_left
    · (intro w hSw; (try dsimp only at hSw); go_simp; try (with_reducible rfl))
    simp only [List.getElem_toArray, List.getElem_cons_succ, List.getElem_cons_zero, Act.put, List.setIfInBounds_toArray, List.set_cons_zero, List.set_cons_succ]
    have z2 := hHeld.2.1
    have y2 : we.frozen? ⟨rb, 2, none⟩ = false := (HH.out.head.fr (F9.out.trans FE.out (by simp)) (by simp)).frozen 2
    refine wpAnyL_ready (rs := [25]) (by kernel_rfl) (by simp) ?_
    refine AllReadyL.end_ rfl (fun K hK => ?_)
    simp only [List.getElem_toArray, List.getElem_cons_succ, List.getElem_cons_zero]
    go_simp
    refine hK.out _ _ ?_
    clear hK K
    try simp only [List.getElem_toArray, List.getElem_cons_succ, List.getElem_cons_zero, Act.put, List.setIfInBounds_toArray, List.set_cons_zero, List.set_cons_succ]
    refine wpAnyL_done (by kernel_rfl) ?_ _
    have N1 := Lib.hid (show NextR rb R (R.push (.slice (some ⟨ge, 0, none⟩) (n + 1) ce) ⟨true, tq, k, at', a7, c7, fq.E.map startM⟩) w (we.setCell ⟨rb, 2, none⟩ (.slice (some ⟨ge, 0, none⟩) (n + 1) ce)) from by
      have hml : (fq.E.map startM).length = fq.en := by rw [List.length_map]; exact HEL.out
      refine push_fin (B := e9) HH.out (F9.out.trans FE.out (by simp)) ?_ (by have := F9.out.size; omega) ?_ ?_ (by rw [← HN.out]; omega)
      · rw [← HN.out]
        unfold RND.cells
        simp only
        rw [hml]
        exact OWE.out
      · show MarksAt we a7 (fq.E.map startM).length (fq.E.map startM)
        rw [hml]
        exact MEE.out
      · intro q hq
        have hq' : Holds a7 fq.en q := by have := hq; rw [show (RND.m ⟨true, tq, k, at', a7, c7, fq.E.map startM⟩).length = fq.en from hml] at this; exact this
        exact ⟨by have := (A7.out q hq').1; have := F9.out.size; omega, AE.out q hq'⟩)
    have HP := Lib.hid (push_pl R (.slice (some ⟨ge, 0, none⟩) (n + 1) ce) ⟨true, tq, k, at', a7, c7, fq.E.map startM⟩ rfl)
    obtain ⟨wf, hwf⟩ : ∃ v, we.setCell ⟨rb, 2, none⟩ (.slice (some ⟨ge, 0, none⟩) (n + 1) ce) = v := ⟨_, rfl⟩
    rw [hwf] at N1 ⊢
    have e2 : wf.cell? ⟨rb, 2, none⟩ = some (.slice (some ⟨ge, 0, none⟩) (n + 1) ce) := N1.out.1.head.cell 2
    clear hwf z2 y2 hHeld KQ D7
    go_wp2_with fail
    go_ret2
    refine ⟨_, ?_, by rw [E2.out]; exact HP.out, N1.out⟩
    rw [E2.out]
    show _ = Ending.returned (.tuple #[.int .i64 (R.L.length : Nat), .int .i64 0])
    rw [← HN.out]
    first | rfl | (congr 4; omega)
end Go.Proofs.Ytclkahggfdnpgaa

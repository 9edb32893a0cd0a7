/- Parts of the proof: Rt7. (Merged by pack.py.) -/
import Derived.Test.YtclkahggfdnpgaaDz22
set_option linter.unusedVariables false
set_option linter.unusedSimpArgs false
namespace Go.Proofs.Ytclkahggfdnpgaa
open Go.RowKit
theorem agg125 (w : World) : (isAgg 125).run Try.prog w = .ok true w := by kernel_rfl
theorem size125 : (Try.prog.info? 125).map (·.size) = some 5 := by kernel_rfl
theorem zero125 : (Try.prog.info? 125).map (fun i => (i.size, i.zero.map (·.cells.size))) = some (5, some 5) := by kernel_rfl
def REndP (rb : Nat) (R : RefD) (id : Int) (w : World) (e : Ending) (w' : World) : Prop := ∃ R', e = .returned (.int .i64 (endF R.pl id).1) ∧ R'.pl = (endF R.pl id).2 ∧ NextR rb R R' w w'
set_option maxHeartbeats 4000000 in
set_option maxRecDepth 100000 in
theorem rtend_any (rb : Nat) (R : RefD) (id : Int) (w : World) {q : Nat} (h : RefAt w rb R) (gd : GoodP R.pl q) :
    Calls Try.prog 44 #[.pointer (some ⟨rb, 0, none⟩), .int .i64 id] w (REndP rb R id w) := by
  have C1 := rlives_any rb R id w h
  have HH := Lib.hid h
  have HG := Lib.hid gd
  by_cases hl : livesB R.L id = true
  rotate_left
  · have hl : livesB R.L id = false := by simpa using hl
    rw [hl] at C1
    have E1 := Lib.hid (endF_none (P := R.pl) (ref_of_none hl))
    clear h gd hl
    go_enter Try.func44, Try.ntmps44
    go_wp2_with fail
    refine C1.mono ?_
    rintro e w1 ⟨rfl, hF⟩
    have F1 := Lib.hid hF
    clear hF C1
    go_wp2_with fail
    go_ret
    exact ⟨R, by rw [E1.out]; rfl, by rw [E1.out], .refl HH.out F1.out⟩
  rw [hl] at C1
  have ho := ref_of hl
  have E1 := Lib.hid (endF_some (P := R.pl) ho)
  obtain ⟨k, rfl, hk, hlv⟩ := lives_at hl
  rw [Int.toNat_natCast] at ho E1
  by_cases h0 : (k : Int) = 0
  · have b0 : ((k : Int) == 0) = true := by rw [h0]; rfl
    have E2 := Lib.hid (show endF R.pl (k : Int) = (1, R.pl) by rw [E1.out, if_pos h0])
    clear h gd hl ho hlv h0 hk
    go_enter Try.func44, Try.ntmps44
    go_wp2_with fail
    refine C1.mono ?_
    rintro e w1 ⟨rfl, hF⟩
    have F1 := Lib.hid hF
    clear hF C1
    go_wp2_with fail
    go_ret
    exact ⟨R, by rw [E2.out]; rfl, by rw [E2.out], .refl HH.out F1.out⟩
  have b0 : ((k : Int) == 0) = false := by rw [beq_eq_false_iff_ne]; exact h0
  have C2 := Lib.hid (fun w' (f : Fr [] w w') => (rkids_any rb R k (-1) w' (h.fr f)).mono fun e w'' h => h.at_)
  obtain ⟨kn, hkn⟩ : ∃ n, ((R.pl.kids (k : Int) (-1)).map (·.id)).length = n := ⟨_, rfl⟩
  have hkn2 : (R.pl.kids (k : Int) (-1)).length = kn := by rw [← hkn, List.length_map]
  unfold Go.Proofs.Ytclkahggfdnpgaa.IntsP at C2
  rw [hkn] at C2
  rw [hkn2, if_neg h0] at E1
  by_cases h1 : 0 < kn
  · have d1 : decide ((kn : Int) > 0) = true := decide_eq_true (by omega)
    have d1' : decide (0 < kn) = true := decide_eq_true h1
    have E2 := Lib.hid (show endF R.pl (k : Int) = (17, R.pl) by rw [E1.out, if_pos h1])
    clear h gd hl ho hlv h0 hk hkn hkn2 h1
    go_enter Try.func44, Try.ntmps44
    go_wp2_with fail
    refine C1.mono ?_
    rintro e w1 ⟨rfl, hF⟩
    have F1 := Lib.hid hF
    clear hF C1
    go_wp2_with fail
    refine (C2.out _ F1.out).mono ?_
    rintro e w2 ⟨ak, ck, rfl, _, _, hF⟩
    have F2 := Lib.hid (F1.out.trans hF (by simp))
    clear hF C2
    go_wp2_with fail
    go_ret
    exact ⟨R, by rw [E2.out]; rfl, by rw [E2.out], .refl HH.out F2.out⟩
  have d1 : decide ((kn : Int) > 0) = false := decide_eq_false (by omega)
  have d1' : decide (0 < kn) = false := decide_eq_false h1
  rw [if_neg h1] at E1
  obtain ⟨htp, hft⟩ := RefAt.tp gd hk hlv
  have hxm : (R.L.getD k default).pi k ∈ R.pl.L := liveN_mem.2 ⟨k, hk, hlv, rfl⟩
  obtain ⟨hp0, hp1, hev0, yp, hyp, hyid, _⟩ := gd.par _ hxm (by show ((k : Nat) : Int) ≠ 0; exact h0)
  obtain ⟨p, hp, hplv, hype⟩ := liveN_mem.1 hyp
  obtain ⟨hptp, hpft⟩ := RefAt.tp gd hp hplv
  have hoy : R.pl.of ((R.L.getD k default).pi k).par = some ((R.L.getD p default).pi p) := by rw [← hyid, hype]; exact of_some gd.srt (by rw [← hype]; exact hyp)
  rw [show ((R.L.getD k default).pi k).par = (p : Int) by rw [← hyid, hype]; rfl] at hoy
  have hparx : (R.L.getD k default).par = (p : Int) := by show ((R.L.getD k default).pi k).par = _; rw [← hyid, hype]; rfl
  have hpk : (p : Int) < (k : Int) := by rw [← hparx]; exact hp1
  have hxf : R.pl.f ((R.L.getD k default).pi k) = (R.Fs.getD (R.L.getD k default).tp default).nrm := getD_nrm _ _
  have hyf : R.pl.f ((R.L.getD p default).pi p) = (R.Fs.getD (R.L.getD p default).tp default).nrm := getD_nrm _ _
  rw [hxf, show ((R.L.getD k default).pi k).par = (p : Int) from hparx, hoy] at E1
  simp only [hyf] at E1
  have MKX := Lib.hid (h.mks _ (getD_memD R.L k hk))
  have MKY := Lib.hid (h.mks _ (getD_memD R.L p hp))
  obtain ⟨g, c, hv, _, _, hcx⟩ := h.node hk
  obtain ⟨g', c', hv', _, _, hcy⟩ := h.node hp
  rw [hv] at hv'
  simp only [Value.slice.injEq] at hv'
  obtain ⟨hgg, _, rfl⟩ := hv'
  simp only [Option.some.injEq, Addr.mk.injEq] at hgg
  obtain ⟨rfl, _⟩ := hgg
  have r2 : w.cell? ⟨rb, 2, none⟩ = some (.slice (some ⟨g, 0, none⟩) R.L.length c) := by rw [← hv]; exact h.head.cell 2
  have r0 : w.cell? ⟨rb, 0, none⟩ = some (.slice R.fa R.Fs.length R.fc) := h.head.cell 0
  obtain ⟨gt, ot, hfa, _, hct⟩ := h.rows.at_ (by omega)
  rw [hfa] at r0
  have hcf := hct _ htp
  have hcg := hct _ hptp
  obtain ⟨x, hx⟩ : ∃ x, R.L.getD k default = x := ⟨_, rfl⟩
  obtain ⟨y, hy⟩ : ∃ y, R.L.getD p default = y := ⟨_, rfl⟩
  have HXE := Lib.hid hx
  have HYE := Lib.hid hy
  have HV := Lib.hid hv
  rw [hx] at hcx hlv htp hft hparx MKX hcf E1 hev0
  rw [hy] at hcy hplv hptp hpft MKY hcg E1
  obtain ⟨f, hf⟩ : ∃ f, R.Fs.getD x.tp default = f := ⟨_, rfl⟩
  obtain ⟨fy, hfy⟩ : ∃ f, R.Fs.getD y.tp default = f := ⟨_, rfl⟩
  have hfm : f ∈ R.Fs := by rw [← hf]; exact getD_memD _ _ htp
  have hfym : fy ∈ R.Fs := by rw [← hfy]; exact getD_memD _ _ hptp
  have hen := h.en f hfm
  have heny := h.en fy hfym
  have FX := Lib.hid (h.flats f hfm)
  have FY := Lib.hid (h.flats fy hfym)
  rw [hf] at hcf hft E1
  rw [hfy] at hcg hpft E1
  have hxl : x.m.length ≤ 10 := by rw [fits_len hft]; exact hen
  have hyl : y.m.length ≤ 10 := by rw [fits_len hpft]; exact heny
  obtain ⟨n, hn⟩ : ∃ n, n = R.L.length := ⟨_, rfl⟩
  obtain ⟨nf, hnf⟩ : ∃ n, n = R.Fs.length := ⟨_, rfl⟩
  have hfew := h.few
  rw [← hn] at r2 hk hp hfew
  rw [← hnf] at r0 htp hptp
  have HN := Lib.hid hn
  have HNF := Lib.hid hnf
  have HCX : Hid (∀ k' v, ([.bool true, .int .i64 x.tp, .int .i64 x.par, .int .i64 x.ev, .slice x.a x.m.length x.c] : List Value)[k']? = some v → w.cell? ⟨g, k * 5 + k', none⟩ = some v) := Lib.hid (by
    intro k' v hk'
    apply hcx k' v
    unfold RND.cells
    rw [hlv]
    exact hk')
  have HCY : Hid (∀ k' v, ([.bool true, .int .i64 y.tp, .int .i64 y.par, .int .i64 y.ev, .slice y.a y.m.length y.c] : List Value)[k']? = some v → w.cell? ⟨g, p * 5 + k', none⟩ = some v) := Lib.hid (by
    intro k' v hk'
    apply hcy k' v
    unfold RND.cells
    rw [hplv]
    exact hk')
  have y0 : w.cell? ⟨gt, ot + x.tp * 2, none⟩ = some (.slice f.ea f.en f.ec) := hcf 0 _ rfl
  have y1 : w.cell? ⟨gt, ot + x.tp * 2 + 1, none⟩ = some (.slice f.ta f.tn f.tc) := hcf 1 _ rfl
  have z0 : w.cell? ⟨gt, ot + y.tp * 2, none⟩ = some (.slice fy.ea fy.en fy.ec) := hcg 0 _ rfl
  have z1 : w.cell? ⟨gt, ot + y.tp * 2 + 1, none⟩ = some (.slice fy.ta fy.tn fy.tc) := hcg 1 _ rfl
  have RR := Lib.hid (⟨r0, r2, y0, y1, z0, z1⟩ : w.cell? ⟨rb, 0, none⟩ = some (.slice (some ⟨gt, ot, none⟩) nf R.fc) ∧ w.cell? ⟨rb, 2, none⟩ = some (.slice (some ⟨g, 0, none⟩) n c) ∧ w.cell? ⟨gt, ot + x.tp * 2, none⟩ = some (.slice f.ea f.en f.ec) ∧ w.cell? ⟨gt, ot + x.tp * 2 + 1, none⟩ = some (.slice f.ta f.tn f.tc) ∧ w.cell? ⟨gt, ot + y.tp * 2, none⟩ = some (.slice fy.ea fy.en fy.ec) ∧ w.cell? ⟨gt, ot + y.tp * 2 + 1, none⟩ = some (.slice fy.ta fy.tn fy.tc))
  have dk : decide (k < n) = true := decide_eq_true hk
  have dp : decide (p < n) = true := decide_eq_true hp
  have dt : decide (x.tp < nf) = true := decide_eq_true htp
  have dty : decide (y.tp < nf) = true := decide_eq_true hptp
  have PX := Lib.hid hparx
  have PFT := Lib.hid hpft
  have hpk' : p ≠ k := by omega
  clear h gd hl ho hlv h0 hkn hkn2 h1 hxm hp0 hp1 hyp hyid hype hplv hoy hxf hyf hcx hcy hv hfa hct hcf hcg hx hy hf hfy hfm hfym hn hnf y0 y1 z0 z1 hparx hft hpft hpk r0 r2
  go_enter Try.func44, Try.ntmps44
  go_wp2_with fail
  refine C1.mono ?_
  rintro e w1 ⟨rfl, hF⟩
  have F1 := Lib.hid hF
  clear hF C1
  go_wp2_with fail
  refine (C2.out _ F1.out).mono ?_
  rintro e w2 ⟨ak, ck, rfl, _, _, hF⟩
  have F2 := Lib.hid (F1.out.trans hF (by simp))
  have HC2 := Lib.hid (fun k' v hk' => cell_fr' (HCX.out k' v hk') F2.out)
  have r2 := cell_fr' RR.out.2.1 F2.out
  clear hF C2
  go_wp2_with (first | ((with_reducible refine wpList_load_at rfl 125 (.tmp 25) rfl agg125 5 size125 g (k * 5) [.bool true, .int .i64 x.tp, .int .i64 x.par, .int .i64 x.ev, .slice x.a x.m.length x.c] rfl HC2.out ?_ ?_); exact rfl) | ((with_reducible refine wpList_var_agg rfl rfl 125 (.tmp 5) (.tmp 26) rfl rfl 5 zero125 [.bool true, .int .i64 x.tp, .int .i64 x.par, .int .i64 x.ev, .slice x.a x.m.length x.c] rfl ?_ ?_ ?_ ?_); (intro u hu; simp at hu; rcases hu with rfl | rfl | rfl | rfl | rfl <;> rfl); exact rfl; exact rfl))
  intro w4 hr4 hs4 hf4
  have F4 := Lib.hid (F2.out.trans hf4 (by simp))
  obtain ⟨x5, hx5⟩ : ∃ b, w2.heap.size = b := ⟨_, rfl⟩
  rw [hx5] at hr4 ⊢
  have X1 := Lib.hid (hr4.cell 1)
  have X2 := Lib.hid (show w4.cell? ⟨x5, 2, none⟩ = some (.int .i64 p) by rw [← PX.out]; exact hr4.cell 2)
  have X3 := Lib.hid (hr4.cell 3)
  have X4 := Lib.hid (hr4.cell 4)
  have D3 := Lib.hid (fun w' (g' : Fr [] w4 w') => racc_any f x.a x.m.length x.c x.m w' ((MKX.out.fr F4.out).fr g') (by omega) (by omega))
  obtain ⟨ba, hba⟩ : ∃ b, accB f.en x.m = b := ⟨_, rfl⟩
  rw [show accB f.nrm.en (x.pi k).m = ba from hba] at E1
  rw [hba] at D3
  have KP := Lib.hid (fun w' (f' : Fr [] w4 w') => (⟨cell_fr' (cell_fr' RR.out.1 F4.out) f', cell_fr' X1.out f', cell_fr' X4.out f', cell_fr' (cell_fr' RR.out.2.2.1 F4.out) f', cell_fr' (cell_fr' RR.out.2.2.2.1 F4.out) f'⟩ : w'.cell? ⟨rb, 0, none⟩ = some (.slice (some ⟨gt, ot, none⟩) nf R.fc) ∧ w'.cell? ⟨x5, 1, none⟩ = some (.int .i64 x.tp) ∧ w'.cell? ⟨x5, 4, none⟩ = some (.slice x.a x.m.length x.c) ∧ w'.cell? ⟨gt, ot + x.tp * 2, none⟩ = some (.slice f.ea f.en f.ec) ∧ w'.cell? ⟨gt, ot + x.tp * 2 + 1, none⟩ = some (.slice f.ta f.tn f.tc)))
  unfold FlatD.val at D3
  clear hr4 hs4 hf4 hx5 hba r2
  go_wp2_with fail
  refine wp_region_held_drew (S := (fun w' => w'.cell? ⟨rb, 0, none⟩ = some (.slice (some ⟨gt, ot, none⟩) nf R.fc) ∧ w'.cell? ⟨x5, 1, none⟩ = some (.int .i64 x.tp) ∧ w'.cell? ⟨x5, 4, none⟩ = some (.slice x.a x.m.length x.c) ∧ w'.cell? ⟨gt, ot + x.tp * 2, none⟩ = some (.slice f.ea f.en f.ec) ∧ w'.cell? ⟨gt, ot + x.tp * 2 + 1, none⟩ = some (.slice f.ta f.tn f.tc))) (by kernel_rfl) (KP.out _ ((Fr.refl [] w4).drew)) (fun hHeld => ?_)
  refine wpAnyH_take (i := 0) (v := ?_) rfl (by kernel_rfl) (by kernel_rfl) (by kernel_rfl) (fun _ _ _ h => h) (Or.inl ⟨rfl, ?_⟩) hHeld ?_
  rotate_left
  · (intro w hSw; (try dsimp only at hSw); go_simp; try (with_reducible rfl))
  simp only [List.getElem_toArray, List.getElem_cons_succ, List.getElem_cons_zero, Act.put, List.setIfInBounds_toArray, List.set_cons_zero, List.set_cons_succ]
  refine wpAnyH_take (i := 1) (v := ?_) rfl (by kernel_rfl) (by kernel_rfl) (by kernel_rfl) (fun _ _ _ h => h) (Or.inl ⟨rfl, ?_⟩) hHeld ?_
  rotate_left
  · (intro w hSw; (try dsimp only at hSw); go_simp; try (with_reducible rfl))
  simp only [List.getElem_toArray, List.getElem_cons_succ, List.getElem_cons_zero, Act.put, List.setIfInBounds_toArray, List.set_cons_zero, List.set_cons_succ]
  refine wpAnyH_take (i := 2) (v := ?_) rfl (by kernel_rfl) (by kernel_rfl) (by kernel_rfl) (fun _ _ _ h => h) (Or.inl ⟨rfl, ?_⟩) hHeld ?_
  rotate_left
  · (intro w hSw; (try dsimp only at hSw); go_simp; try (with_reducible rfl))
  simp only [List.getElem_toArray, List.getElem_cons_succ, List.getElem_cons_zero, Act.put, List.setIfInBounds_toArray, List.set_cons_zero, List.set_cons_succ]
  refine wpAnyH_take (i := 3) (v := ?_) rfl (by kernel_rfl) (by kernel_rfl) (by kernel_rfl) (fun _ _ _ h => h) (Or.inl ⟨rfl, ?_⟩) hHeld ?_
  rotate_left
  · (intro w hSw; (try dsimp only at hSw); go_simp; try (with_reducible rfl))
  simp only [List.getElem_toArray, List.getElem_cons_succ, List.getElem_cons_zero, Act.put, List.setIfInBounds_toArray, List.set_cons_zero, List.set_cons_succ]
  refine wpAnyH_take (i := 4) (v := ?_) rfl (by kernel_rfl) (by kernel_rfl) (by kernel_rfl) (fun _ _ _ h => h) (Or.inl ⟨rfl, ?_⟩) hHeld ?_
  rotate_left
  · (intro w hSw; (try dsimp only at hSw); go_simp; try (with_reducible rfl))
  simp only [List.getElem_toArray, List.getElem_cons_succ, List.getElem_cons_zero, Act.put, List.setIfInBounds_toArray, List.set_cons_zero, List.set_cons_succ]
  refine wpAnyH_take (i := 5) (v := ?_) rfl (by kernel_rfl) (by kernel_rfl) (by kernel_rfl) (fun _ _ _ h => h) (Or.inl ⟨rfl, ?_⟩) hHeld ?_
  rotate_left
  · (intro w hSw; (try dsimp only at hSw); go_simp; try (with_reducible rfl))
  simp only [List.getElem_toArray, List.getElem_cons_succ, List.getElem_cons_zero, Act.put, List.setIfInBounds_toArray, List.set_cons_zero, List.set_cons_succ]
  refine wpAnyH_take (i := 6) (v := ?_) rfl (by kernel_rfl) (by kernel_rfl) (by kernel_rfl) (fun _ _ _ h => h) (Or.inl ⟨rfl, ?_⟩) hHeld ?_
  rotate_left
  · (intro w hSw; (try dsimp only at hSw); go_simp; try (with_reducible rfl))
  simp only [List.getElem_toArray, List.getElem_cons_succ, List.getElem_cons_zero, Act.put, List.setIfInBounds_toArray, List.set_cons_zero, List.set_cons_succ]
  refine wpAnyH_take (i := 7) (v := ?_) rfl (by kernel_rfl) (by kernel_rfl) (by kernel_rfl) (fun _ _ _ h => h) (Or.inl ⟨rfl, ?_⟩) hHeld ?_
  rotate_left
  · (intro w hSw; (try dsimp only at hSw); go_simp; try (with_reducible rfl))
  simp only [List.getElem_toArray, List.getElem_cons_succ, List.getElem_cons_zero, Act.put, List.setIfInBounds_toArray, List.set_cons_zero, List.set_cons_succ]
  refine wpAnyH_take (i := 8) (v := ?_) rfl (by kernel_rfl) (by kernel_rfl) (by kernel_rfl) (fun _ _ _ h => h) (Or.inl ⟨rfl, ?_⟩) hHeld ?_
  rotate_left
  · (intro w hSw; (try dsimp only at hSw); go_simp; try (with_reducible rfl))
  simp only [List.getElem_toArray, List.getElem_cons_succ, List.getElem_cons_zero, Act.put, List.setIfInBounds_toArray, List.set_cons_zero, List.set_cons_succ]
  refine wpAnyH_take (i := 9) (v := ?_) rfl (by kernel_rfl) (by kernel_rfl) (by kernel_rfl) (fun _ _ _ h => h) (Or.inl ⟨rfl, ?_⟩) hHeld ?_
  rotate_left
  · (intro w hSw; (try dsimp only at hSw); go_simp; try (with_reducible rfl))
  simp only [List.getElem_toArray, List.getElem_cons_succ, List.getElem_cons_zero, Act.put, List.setIfInBounds_toArray, List.set_cons_zero, List.set_cons_succ]
  refine wpAnyH_ready (rs := [10]) (by kernel_rfl) (by simp) ?_
  refine AllReadyH.cons rfl (fun K hK => ?_) AllReadyH.nil
  simp only [List.getElem_toArray, List.getElem_cons_succ, List.getElem_cons_zero]
  go_simp
  go_wp2_with (first | (go_at_call 25; refine (D3.out _ ((Fr.refl [] w4).drew)).mono ?_; rintro e v1 ⟨rfl, hG1⟩))
  refine hK.out _ _ (by first | (exact KP.out _ (((Fr.refl [] w4).drew).trans hG1 (by simp))) | go_keep) (fun hHeld => ?_)
  clear hK K
  refine wpAnyH_take (i := 11) (v := ?_) rfl (by kernel_rfl) (by kernel_rfl) (by kernel_rfl) (fun _ _ _ h => h) (Or.inl ⟨rfl, ?_⟩) hHeld ?_
  rotate_left
  · (intro w hSw; (try dsimp only at hSw); go_simp; try (with_reducible rfl))
  simp only [List.getElem_toArray, List.getElem_cons_succ, List.getElem_cons_zero, Act.put, List.setIfInBounds_toArray, List.set_cons_zero, List.set_cons_succ]
  refine wpAnyH_done (by kernel_rfl) ?_ _
  have F5 := Lib.hid ((F4.out.trans ((Fr.refl [] w4).drew) (by simp)).trans hG1 (by simp))
  have F45 := Lib.hid (((Fr.refl [] w4).drew).trans hG1 (by simp))
  clear hG1 KP D3 hHeld
  cases ba
  · have E2 := Lib.hid (show endF R.pl (k : Int) = (11, R.pl) by rw [E1.out]; rfl)
    go_wp2_with fail
    go_ret
    exact ⟨R, by rw [E2.out]; rfl, by rw [E2.out], .refl HH.out F5.out⟩
  have KQ := Lib.hid (fun w' (f' : Fr [] v1 w') => (⟨cell_fr' (cell_fr' RR.out.2.1 F5.out) f', cell_fr' (cell_fr' X2.out F45.out) f', cell_fr' (cell_fr' (HCY.out 0 _ rfl) F5.out) f', cell_fr' (cell_fr' (HCY.out 1 _ rfl) F5.out) f', cell_fr' (cell_fr' (HCY.out 2 _ rfl) F5.out) f', cell_fr' (cell_fr' (HCY.out 3 _ rfl) F5.out) f', cell_fr' (cell_fr' (HCY.out 4 _ rfl) F5.out) f'⟩ : w'.cell? ⟨rb, 2, none⟩ = some (.slice (some ⟨g, 0, none⟩) n c) ∧ w'.cell? ⟨x5, 2, none⟩ = some (.int .i64 p) ∧ w'.cell? ⟨g, p * 5, none⟩ = some (.bool true) ∧ w'.cell? ⟨g, p * 5 + 1, none⟩ = some (.int .i64 y.tp) ∧ w'.cell? ⟨g, p * 5 + 2, none⟩ = some (.int .i64 y.par) ∧ w'.cell? ⟨g, p * 5 + 3, none⟩ = some (.int .i64 y.ev) ∧ w'.cell? ⟨g, p * 5 + 4, none⟩ = some (.slice y.a y.m.length y.c)))
  obtain ⟨w5, hw5⟩ : ∃ v, v1 = v := ⟨_, rfl⟩
  rw [hw5] at F5 F45 KQ ⊢
  clear hw5
  go_wp2_with fail
  refine wp_region_last (S := (fun w' => w'.cell? ⟨rb, 2, none⟩ = some (.slice (some ⟨g, 0, none⟩) n c) ∧ w'.cell? ⟨x5, 2, none⟩ = some (.int .i64 p) ∧ w'.cell? ⟨g, p * 5, none⟩ = some (.bool true) ∧ w'.cell? ⟨g, p * 5 + 1, none⟩ = some (.int .i64 y.tp) ∧ w'.cell? ⟨g, p * 5 + 2, none⟩ = some (.int .i64 y.par) ∧ w'.cell? ⟨g, p * 5 + 3, none⟩ = some (.int .i64 y.ev) ∧ w'.cell? ⟨g, p * 5 + 4, none⟩ = some (.slice y.a y.m.length y.c))) 9 (by kernel_rfl) (KQ.out _ ((Fr.refl [] w5).drew)) (fun hHeld => ?_)
  refine wpAnyL_take (i := 0) (v := ?_) rfl (by kernel_rfl) (by kernel_rfl) (by kernel_rfl) (by kernel_rfl) (fun _ _ _ h => h) (Or.inl ⟨rfl, ?_⟩) hHeld ?_
  rotate_left
  · (intro w hSw; (try dsimp only at hSw); go_simp; try (with_reducible rfl))
  simp only [List.getElem_toArray, List.getElem_cons_succ, List.getElem_cons_zero, Act.put, List.setIfInBounds_toArray, List.set_cons_zero, List.set_cons_succ]
  refine wpAnyL_take (i := 1) (v := ?_) rfl (by kernel_rfl) (by kernel_rfl) (by kernel_rfl) (by kernel_rfl) (fun _ _ _ h => h) (Or.inl ⟨rfl, ?_⟩) hHeld ?_
  rotate_left
  · (intro w hSw; (try dsimp only at hSw); go_simp; try (with_reducible rfl))
  simp only [List.getElem_toArray, List.getElem_cons_succ, List.getElem_cons_zero, Act.put, List.setIfInBounds_toArray, List.set_cons_zero, List.set_cons_succ]
  refine wpAnyL_take (i := 2) (v := ?_) rfl (by kernel_rfl) (by kernel_rfl) (by kernel_rfl) (by kernel_rfl) (fun _ _ _ h => h) (Or.inl ⟨rfl, ?_⟩) hHeld ?_
  rotate_left
  · (intro w hSw; (try dsimp only at hSw); go_simp; try (with_reducible rfl))
  simp only [List.getElem_toArray, List.getElem_cons_succ, List.getElem_cons_zero, Act.put, List.setIfInBounds_toArray, List.set_cons_zero, List.set_cons_succ]
  refine wpAnyL_take (i := 3) (v := ?_) rfl (by kernel_rfl) (by kernel_rfl) (by kernel_rfl) (by kernel_rfl) (fun _ _ _ h => h) (Or.inl ⟨rfl, ?_⟩) hHeld ?_
  rotate_left
  · (intro w hSw; (try dsimp only at hSw); go_simp; try (with_reducible rfl))
  simp only [List.getElem_toArray, List.getElem_cons_succ, List.getElem_cons_zero, Act.put, List.setIfInBounds_toArray, List.set_cons_zero, List.set_cons_succ]
  refine wpAnyL_take (i := 4) (v := ?_) rfl (by kernel_rfl) (by kernel_rfl) (by kernel_rfl) (by kernel_rfl) (fun _ _ _ h => h) (Or.inl ⟨rfl, ?_⟩) hHeld ?_
  rotate_left
  · (intro w hSw; (try dsimp only at hSw); go_simp; try (with_reducible rfl))
  simp only [List.getElem_toArray, List.getElem_cons_succ, List.getElem_cons_zero, Act.put, List.setIfInBounds_toArray, List.set_cons_zero, List.set_cons_succ]
  refine wpAnyL_take (i := 5) (v := ?_) rfl (by kernel_rfl) (by kernel_rfl) (by kernel_rfl) (by kernel_rfl) (fun _ _ _ h => h) (Or.inl ⟨rfl, ?_⟩) hHeld ?_
  rotate_left
  · (intro w hSw; (try dsimp only at hSw); go_simp; try (with_reducible rfl))
  simp only [List.getElem_toArray, List.getElem_cons_succ, List.getElem_cons_zero, Act.put, List.setIfInBounds_toArray, List.set_cons_zero, List.set_cons_succ]
  refine wpAnyL_take (i := 6) (v := ?_) rfl (by kernel_rfl) (by kernel_rfl) (by kernel_rfl) (by kernel_rfl) (fun _ _ _ h => h) (Or.inl ⟨rfl, ?_⟩) hHeld ?_
  rotate_left
  · (intro w hSw; (try dsimp only at hSw); go_simp; try (with_reducible rfl))
  simp only [List.getElem_toArray, List.getElem_cons_succ, List.getElem_cons_zero, Act.put, List.setIfInBounds_toArray, List.set_cons_zero, List.set_cons_succ]
  refine wpAnyL_take (i := 7) (v := ?_) rfl (by kernel_rfl) (by kernel_rfl) (by kernel_rfl) (by kernel_rfl) (fun _ _ _ h => h) (Or.inl ⟨rfl, ?_⟩) hHeld ?_
  rotate_left
  · (intro w hSw; (try dsimp only at hSw); go_simp; try (with_reducible rfl))
  simp only [List.getElem_toArray, List.getElem_cons_succ, List.getElem_cons_zero, Act.put, List.setIfInBounds_toArray, List.set_cons_zero, List.set_cons_succ]
  refine wpAnyL_ready (rs := [8]) (by kernel_rfl) (by simp) ?_
  refine AllReadyL.cons rfl (fun K hK => ?_) AllReadyL.nil
  simp only [List.getElem_toArray, List.getElem_cons_succ, List.getElem_cons_zero]
  go_simp
  refine hK.out _ _ (KQ.out _ (((Fr.refl [] w5).drew).alloc _)) (fun hHeld => ?_)
  clear hK K
  try simp only [List.getElem_toArray, List.getElem_cons_succ, List.getElem_cons_zero, Act.put, List.setIfInBounds_toArray, List.set_cons_zero, List.set_cons_succ]
  refine wpAnyL_ready (rs := [9]) (by kernel_rfl) (by simp) ?_
  refine AllReadyL.end_ rfl (fun K hK => ?_)
  simp only [List.getElem_toArray, List.getElem_cons_succ, List.getElem_cons_zero]
  go_simp
  refine hK.out _ _ ?_
  clear hK K
  try simp only [List.getElem_toArray, List.getElem_cons_succ, List.getElem_cons_zero, Act.put, List.setIfInBounds_toArray, List.set_cons_zero, List.set_cons_succ]
  refine wpAnyL_done (by kernel_rfl) ?_ _
  obtain ⟨w6, hw6⟩ : ∃ v, (w5.alloc (.cells #[.bool true, .int .i64 y.tp, .int .i64 y.par, .int .i64 y.ev, .slice y.a y.m.length y.c] 125)).drew = v := ⟨_, rfl⟩
  have hr6 : Row w6 w5.heap.size [.bool true, .int .i64 y.tp, .int .i64 y.par, .int .i64 y.ev, .slice y.a y.m.length y.c] 125 := by rw [← hw6]; exact (Row.new w5 [.bool true, .int .i64 y.tp, .int .i64 y.par, .int .i64 y.ev, .slice y.a y.m.length y.c] 125).drew
  have F56 := Lib.hid (show Fr [] w5 w6 by rw [← hw6]; exact ((Fr.refl [] w5).alloc _).drew)
  have F6 := Lib.hid (F5.out.trans F56.out (by simp))
  rw [hw6]
  obtain ⟨y6, hy6⟩ : ∃ b, w5.heap.size = b := ⟨_, rfl⟩
  rw [hy6] at hr6 ⊢
  have KP := Lib.hid (fun w' (f' : Fr [] w6 w') => (⟨cell_fr' (cell_fr' RR.out.1 F6.out) f', cell_fr' (hr6.cell 1) f', cell_fr' (hr6.cell 4) f', cell_fr' (cell_fr' X3.out (F45.out.trans F56.out (by simp))) f', cell_fr' (cell_fr' RR.out.2.2.2.2.1 F6.out) f', cell_fr' (cell_fr' RR.out.2.2.2.2.2 F6.out) f'⟩ : w'.cell? ⟨rb, 0, none⟩ = some (.slice (some ⟨gt, ot, none⟩) nf R.fc) ∧ w'.cell? ⟨y6, 1, none⟩ = some (.int .i64 y.tp) ∧ w'.cell? ⟨y6, 4, none⟩ = some (.slice y.a y.m.length y.c) ∧ w'.cell? ⟨x5, 3, none⟩ = some (.int .i64 x.ev) ∧ w'.cell? ⟨gt, ot + y.tp * 2, none⟩ = some (.slice fy.ea fy.en fy.ec) ∧ w'.cell? ⟨gt, ot + y.tp * 2 + 1, none⟩ = some (.slice fy.ta fy.tn fy.tc)))
  have D4 := Lib.hid (fun w' (g' : Fr [] w6 w') => rdo_fresh fy y.a y.m.length y.c y.m x.ev w' ((FY.out.fr F6.out).fr g') ((MKY.out.fr F6.out).fr g') (by omega))
  clear hw6 hr6 hy6 hHeld KQ
  by_cases hE : doE fy y.m x.ev = 0
  rotate_left
  · obtain ⟨E, hEE⟩ : ∃ E, doE fy y.m x.ev = E := ⟨_, rfl⟩
    have E2 := Lib.hid (show endF R.pl (k : Int) = (E, R.pl) by
      rw [E1.out, if_pos trivial]
      rw [if_neg (show ¬ doE fy.nrm (y.pi p).m (x.pi k).ev = 0 from hE)]
      rw [show doE fy.nrm (y.pi p).m (x.pi k).ev = E from hEE])
    rw [hEE] at hE D4
    have HE := Lib.hid hE
    have D5 := Lib.hid (fun w' (g' : Fr [] w6 w') => (D4.out w' g').mono fun e w'' h => nextF_bad HE.out h)
    have gE : (E != 0) = true := by simpa using hE
    unfold FlatD.val at D5
    clear hEE hE D4
    go_wp2_with fail
    refine wp_region_held_drew (S := (fun w' => w'.cell? ⟨rb, 0, none⟩ = some (.slice (some ⟨gt, ot, none⟩) nf R.fc) ∧ w'.cell? ⟨y6, 1, none⟩ = some (.int .i64 y.tp) ∧ w'.cell? ⟨y6, 4, none⟩ = some (.slice y.a y.m.length y.c) ∧ w'.cell? ⟨x5, 3, none⟩ = some (.int .i64 x.ev) ∧ w'.cell? ⟨gt, ot + y.tp * 2, none⟩ = some (.slice fy.ea fy.en fy.ec) ∧ w'.cell? ⟨gt, ot + y.tp * 2 + 1, none⟩ = some (.slice fy.ta fy.tn fy.tc))) (by kernel_rfl) (KP.out _ ((Fr.refl [] w6).drew)) (fun hHeld => ?_)
    refine wpAnyH_take (i := 0) (v := ?_) rfl (by kernel_rfl) (by kernel_rfl) (by kernel_rfl) (fun _ _ _ h => h) (Or.inl ⟨rfl, ?_⟩) hHeld ?_
    rotate_left
    · (intro w hSw; (try dsimp only at hSw); go_simp; try (with_reducible rfl))
    simp only [List.getElem_toArray, List.getElem_cons_succ, List.getElem_cons_zero, Act.put, List.setIfInBounds_toArray, List.set_cons_zero, List.set_cons_succ]
    refine wpAnyH_take (i := 1) (v := ?_) rfl (by kernel_rfl) (by kernel_rfl) (by kernel_rfl) (fun _ _ _ h => h) (Or.inl ⟨rfl, ?_⟩) hHeld ?_
    rotate_left
    · (intro w hSw; (try dsimp only at hSw); go_simp; try (with_reducible rfl))
    simp only [List.getElem_toArray, List.getElem_cons_succ, List.getElem_cons_zero, Act.put, List.setIfInBounds_toArray, List.set_cons_zero, List.set_cons_succ]
    refine wpAnyH_take (i := 2) (v := ?_) rfl (by kernel_rfl) (by kernel_rfl) (by kernel_rfl) (fun _ _ _ h => h) (Or.inl ⟨rfl, ?_⟩) hHeld ?_
    rotate_left
    · (intro w hSw; (try dsimp only at hSw); go_simp; try (with_reducible rfl))
    simp only [List.getElem_toArray, List.getElem_cons_succ, List.getElem_cons_zero, Act.put, List.setIfInBounds_toArray, List.set_cons_zero, List.set_cons_succ]
    refine wpAnyH_take (i := 3) (v := ?_) rfl (by kernel_rfl) (by kernel_rfl) (by kernel_rfl) (fun _ _ _ h => h) (Or.inl ⟨rfl, ?_⟩) hHeld ?_
    rotate_left
    · (intro w hSw; (try dsimp only at hSw); go_simp; try (with_reducible rfl))
    simp only [List.getElem_toArray, List.getElem_cons_succ, List.getElem_cons_zero, Act.put, List.setIfInBounds_toArray, List.set_cons_zero, List.set_cons_succ]
    refine wpAnyH_take (i := 4) (v := ?_) rfl (by kernel_rfl) (by kernel_rfl) (by kernel_rfl) (fun _ _ _ h => h) (Or.inl ⟨rfl, ?_⟩) hHeld ?_
    rotate_left
    · (intro w hSw; (try dsimp only at hSw); go_simp; try (with_reducible rfl))
    simp only [List.getElem_toArray, List.getElem_cons_succ, List.getElem_cons_zero, Act.put, List.setIfInBounds_toArray, List.set_cons_zero, List.set_cons_succ]
    refine wpAnyH_take (i := 5) (v := ?_) rfl (by kernel_rfl) (by kernel_rfl) (by kernel_rfl) (fun _ _ _ h => h) (Or.inl ⟨rfl, ?_⟩) hHeld ?_
    rotate_left
    · (intro w hSw; (try dsimp only at hSw); go_simp; try (with_reducible rfl))
    simp only [List.getElem_toArray, List.getElem_cons_succ, List.getElem_cons_zero, Act.put, List.setIfInBounds_toArray, List.set_cons_zero, List.set_cons_succ]
    refine wpAnyH_take (i := 6) (v := ?_) rfl (by kernel_rfl) (by kernel_rfl) (by kernel_rfl) (fun _ _ _ h => h) (Or.inl ⟨rfl, ?_⟩) hHeld ?_
    rotate_left
    · (intro w hSw; (try dsimp only at hSw); go_simp; try (with_reducible rfl))
    simp only [List.getElem_toArray, List.getElem_cons_succ, List.getElem_cons_zero, Act.put, List.setIfInBounds_toArray, List.set_cons_zero, List.set_cons_succ]
    refine wpAnyH_take (i := 7) (v := ?_) rfl (by kernel_rfl) (by kernel_rfl) (by kernel_rfl) (fun _ _ _ h => h) (Or.inl ⟨rfl, ?_⟩) hHeld ?_
    rotate_left
    · (intro w hSw; (try dsimp only at hSw); go_simp; try (with_reducible rfl))
    simp only [List.getElem_toArray, List.getElem_cons_succ, List.getElem_cons_zero, Act.put, List.setIfInBounds_toArray, List.set_cons_zero, List.set_cons_succ]
    refine wpAnyH_take (i := 8) (v := ?_) rfl (by kernel_rfl) (by kernel_rfl) (by kernel_rfl) (fun _ _ _ h => h) (Or.inl ⟨rfl, ?_⟩) hHeld ?_
    rotate_left
    · (intro w hSw; (try dsimp only at hSw); go_simp; try (with_reducible rfl))
    simp only [List.getElem_toArray, List.getElem_cons_succ, List.getElem_cons_zero, Act.put, List.setIfInBounds_toArray, List.set_cons_zero, List.set_cons_succ]
    refine wpAnyH_take (i := 9) (v := ?_) rfl (by kernel_rfl) (by kernel_rfl) (by kernel_rfl) (fun _ _ _ h => h) (Or.inl ⟨rfl, ?_⟩) hHeld ?_
    rotate_left
    · (intro w hSw; (try dsimp only at hSw); go_simp; try (with_reducible rfl))
    simp only [List.getElem_toArray, List.getElem_cons_succ, List.getElem_cons_zero, Act.put, List.setIfInBounds_toArray, List.set_cons_zero, List.set_cons_succ]
    refine wpAnyH_take (i := 10) (v := ?_) rfl (by kernel_rfl) (by kernel_rfl) (by kernel_rfl) (fun _ _ _ h => h) (Or.inl ⟨rfl, ?_⟩) hHeld ?_
    rotate_left
    · (intro w hSw; (try dsimp only at hSw); go_simp; try (with_reducible rfl))
    simp only [List.getElem_toArray, List.getElem_cons_succ, List.getElem_cons_zero, Act.put, List.setIfInBounds_toArray, List.set_cons_zero, List.set_cons_succ]
    refine wpAnyH_take (i := 11) (v := ?_) rfl (by kernel_rfl) (by kernel_rfl) (by kernel_rfl) (fun _ _ _ h => h) (Or.inl ⟨rfl, ?_⟩) hHeld ?_
    rotate_left
    · (intro w hSw; (try dsimp only at hSw); go_simp; try (with_reducible rfl))
    simp only [List.getElem_toArray, List.getElem_cons_succ, List.getElem_cons_zero, Act.put, List.setIfInBounds_toArray, List.set_cons_zero, List.set_cons_succ]
    refine wpAnyH_ready (rs := [12]) (by kernel_rfl) (by simp) ?_
    refine AllReadyH.cons rfl (fun K hK => ?_) AllReadyH.nil
    simp only [List.getElem_toArray, List.getElem_cons_succ, List.getElem_cons_zero]
    go_simp
    go_wp2_with (first | (go_at_call 30; refine (D5.out _ ((Fr.refl [] w6).drew)).mono ?_; rintro e w7 ⟨a7, c7, rfl, hG1⟩))
    refine hK.out _ _ (by first | (exact KP.out _ (((Fr.refl [] w6).drew).trans hG1 (by simp))) | go_keep) (fun hHeld => ?_)
    clear hK K
    refine wpAnyH_take (i := 13) (v := ?_) rfl (by kernel_rfl) (by kernel_rfl) (by kernel_rfl) (fun _ _ _ h => h) (Or.inl ⟨rfl, ?_⟩) hHeld ?_
    rotate_left
    · (intro w hSw; (try dsimp only at hSw); go_simp; try (with_reducible rfl))
    simp only [List.getElem_toArray, List.getElem_cons_succ, List.getElem_cons_zero, Act.put, List.setIfInBounds_toArray, List.set_cons_zero, List.set_cons_succ]
    refine wpAnyH_take (i := 14) (v := ?_) rfl (by kernel_rfl) (by kernel_rfl) (by kernel_rfl) (fun _ _ _ h => h) (Or.inl ⟨rfl, ?_⟩) hHeld ?_
    rotate_left
    · (intro w hSw; (try dsimp only at hSw); go_simp; try (with_reducible rfl))
    simp only [List.getElem_toArray, List.getElem_cons_succ, List.getElem_cons_zero, Act.put, List.setIfInBounds_toArray, List.set_cons_zero, List.set_cons_succ]
    refine wpAnyH_take (i := 15) (v := ?_) rfl (by kernel_rfl) (by kernel_rfl) (by kernel_rfl) (fun _ _ _ h => h) (Or.inl ⟨rfl, ?_⟩) hHeld ?_
    rotate_left
    · (intro w hSw; (try dsimp only at hSw); go_simp; try (with_reducible rfl))
    simp only [List.getElem_toArray, List.getElem_cons_succ, List.getElem_cons_zero, Act.put, List.setIfInBounds_toArray, List.set_cons_zero, List.set_cons_succ]
    refine wpAnyH_take (i := 16) (v := ?_) rfl (by kernel_rfl) (by kernel_rfl) (by kernel_rfl) (fun _ _ _ h => h) (Or.inl ⟨rfl, ?_⟩) hHeld ?_
    rotate_left
    · (intro w hSw; (try dsimp only at hSw); go_simp; try (with_reducible rfl))
    simp only [List.getElem_toArray, List.getElem_cons_succ, List.getElem_cons_zero, Act.put, List.setIfInBounds_toArray, List.set_cons_zero, List.set_cons_succ]
    refine wpAnyH_take (i := 17) (v := ?_) rfl (by kernel_rfl) (by kernel_rfl) (by kernel_rfl) (fun _ _ _ h => h) (Or.inl ⟨rfl, ?_⟩) hHeld ?_
    rotate_left
    · (intro w hSw; (try dsimp only at hSw); go_simp; try (with_reducible rfl))
    simp only [List.getElem_toArray, List.getElem_cons_succ, List.getElem_cons_zero, Act.put, List.setIfInBounds_toArray, List.set_cons_zero, List.set_cons_succ]
    refine wpAnyH_done (by kernel_rfl) ?_ _
    have FZ := Lib.hid (F6.out.trans (((Fr.refl [] w6).drew).trans hG1 (by simp)) (by simp))
    clear hG1 hHeld KP D5
    go_wp2_with fail
    go_ret
    exact ⟨R, by rw [E2.out]; rfl, by rw [E2.out], .refl HH.out FZ.out⟩
  obtain ⟨M, hM⟩ : ∃ M, doM fy y.m x.ev.toNat = M := ⟨_, rfl⟩
  have E2 := Lib.hid (show endF R.pl (k : Int) = (0, { R.pl with L := (R.pl.L.map (PI.setm (p : Int) M)).filter (fun z => decide (z.id ≠ (k : Int))) }) by
    rw [E1.out, if_pos trivial]
    rw [if_pos (show doE fy.nrm (y.pi p).m (x.pi k).ev = 0 from hE)]
    rw [show doM fy.nrm (y.pi p).m (x.pi k).ev.toNat = M from hM]
    rfl)
  rw [hE, hM] at D4
  have D5 := Lib.hid (fun w' (g' : Fr [] w6 w') => (D4.out w' g').mono fun e w'' h => nextF_ok0 h)
  unfold FlatD.val at D5
  unfold NewOk at D5
  clear hE hM D4
  go_wp2_with fail
  refine wp_region_held_drew (S := (fun w' => w'.cell? ⟨rb, 0, none⟩ = some (.slice (some ⟨gt, ot, none⟩) nf R.fc) ∧ w'.cell? ⟨y6, 1, none⟩ = some (.int .i64 y.tp) ∧ w'.cell? ⟨y6, 4, none⟩ = some (.slice y.a y.m.length y.c) ∧ w'.cell? ⟨x5, 3, none⟩ = some (.int .i64 x.ev) ∧ w'.cell? ⟨gt, ot + y.tp * 2, none⟩ = some (.slice fy.ea fy.en fy.ec) ∧ w'.cell? ⟨gt, ot + y.tp * 2 + 1, none⟩ = some (.slice fy.ta fy.tn fy.tc))) (by kernel_rfl) (KP.out _ ((Fr.refl [] w6).drew)) (fun hHeld => ?_)
  refine wpAnyH_take (i := 0) (v := ?_) rfl (by kernel_rfl) (by kernel_rfl) (by kernel_rfl) (fun _ _ _ h => h) (Or.inl ⟨rfl, ?_⟩) hHeld ?_
  rotate_left
  · (intro w hSw; (try dsimp only at hSw); go_simp; try (with_reducible rfl))
  simp only [List.getElem_toArray, List.getElem_cons_succ, List.getElem_cons_zero, Act.put, List.setIfInBounds_toArray, List.set_cons_zero, List.set_cons_succ]
  refine wpAnyH_take (i := 1) (v := ?_) rfl (by kernel_rfl) (by kernel_rfl) (by kernel_rfl) (fun _ _ _ h => h) (Or.inl ⟨rfl, ?_⟩) hHeld ?_
  rotate_left
  · (intro w hSw; (try dsimp only at hSw); go_simp; try (with_reducible rfl))
  simp only [List.getElem_toArray, List.getElem_cons_succ, List.getElem_cons_zero, Act.put, List.setIfInBounds_toArray, List.set_cons_zero, List.set_cons_succ]
  refine wpAnyH_take (i := 2) (v := ?_) rfl (by kernel_rfl) (by kernel_rfl) (by kernel_rfl) (fun _ _ _ h => h) (Or.inl ⟨rfl, ?_⟩) hHeld ?_
  rotate_left
  · (intro w hSw; (try dsimp only at hSw); go_simp; try (with_reducible rfl))
  simp only [List.getElem_toArray, List.getElem_cons_succ, List.getElem_cons_zero, Act.put, List.setIfInBounds_toArray, List.set_cons_zero, List.set_cons_succ]
  refine wpAnyH_take (i := 3) (v := ?_) rfl (by kernel_rfl) (by kernel_rfl) (by kernel_rfl) (fun _ _ _ h => h) (Or.inl ⟨rfl, ?_⟩) hHeld ?_
  rotate_left
  · (intro w hSw; (try dsimp only at hSw); go_simp; try (with_reducible rfl))
  simp only [List.getElem_toArray, List.getElem_cons_succ, List.getElem_cons_zero, Act.put, List.setIfInBounds_toArray, List.set_cons_zero, List.set_cons_succ]
  refine wpAnyH_take (i := 4) (v := ?_) rfl (by kernel_rfl) (by kernel_rfl) (by kernel_rfl) (fun _ _ _ h => h) (Or.inl ⟨rfl, ?_⟩) hHeld ?_
  rotate_left
  · (intro w hSw; (try dsimp only at hSw); go_simp; try (with_reducible rfl))
  simp only [List.getElem_toArray, List.getElem_cons_succ, List.getElem_cons_zero, Act.put, List.setIfInBounds_toArray, List.set_cons_zero, List.set_cons_succ]
  refine wpAnyH_take (i := 5) (v := ?_) rfl (by kernel_rfl) (by kernel_rfl) (by kernel_rfl) (fun _ _ _ h => h) (Or.inl ⟨rfl, ?_⟩) hHeld ?_
  rotate_left
  · (intro w hSw; (try dsimp only at hSw); go_simp; try (with_reducible rfl))
  simp only [List.getElem_toArray, List.getElem_cons_succ, List.getElem_cons_zero, Act.put, List.setIfInBounds_toArray, List.set_cons_zero, List.set_cons_succ]
  refine wpAnyH_take (i := 6) (v := ?_) rfl (by kernel_rfl) (by kernel_rfl) (by kernel_rfl) (fun _ _ _ h => h) (Or.inl ⟨rfl, ?_⟩) hHeld ?_
  rotate_left
  · (intro w hSw; (try dsimp only at hSw); go_simp; try (with_reducible rfl))
  simp only [List.getElem_toArray, List.getElem_cons_succ, List.getElem_cons_zero, Act.put, List.setIfInBounds_toArray, List.set_cons_zero, List.set_cons_succ]
  refine wpAnyH_take (i := 7) (v := ?_) rfl (by kernel_rfl) (by kernel_rfl) (by kernel_rfl) (fun _ _ _ h => h) (Or.inl ⟨rfl, ?_⟩) hHeld ?_
  rotate_left
  · (intro w hSw; (try dsimp only at hSw); go_simp; try (with_reducible rfl))
  simp only [List.getElem_toArray, List.getElem_cons_succ, List.getElem_cons_zero, Act.put, List.setIfInBounds_toArray, List.set_cons_zero, List.set_cons_succ]
  refine wpAnyH_take (i := 8) (v := ?_) rfl (by kernel_rfl) (by kernel_rfl) (by kernel_rfl) (fun _ _ _ h => h) (Or.inl ⟨rfl, ?_⟩) hHeld ?_
  rotate_left
  · (intro w hSw; (try dsimp only at hSw); go_simp; try (with_reducible rfl))
  simp only [List.getElem_toArray, List.getElem_cons_succ, List.getElem_cons_zero, Act.put, List.setIfInBounds_toArray, List.set_cons_zero, List.set_cons_succ]
  refine wpAnyH_take (i := 9) (v := ?_) rfl (by kernel_rfl) (by kernel_rfl) (by kernel_rfl) (fun _ _ _ h => h) (Or.inl ⟨rfl, ?_⟩) hHeld ?_
  rotate_left
  · (intro w hSw; (try dsimp only at hSw); go_simp; try (with_reducible rfl))
  simp only [List.getElem_toArray, List.getElem_cons_succ, List.getElem_cons_zero, Act.put, List.setIfInBounds_toArray, List.set_cons_zero, List.set_cons_succ]
  refine wpAnyH_take (i := 10) (v := ?_) rfl (by kernel_rfl) (by kernel_rfl) (by kernel_rfl) (fun _ _ _ h => h) (Or.inl ⟨rfl, ?_⟩) hHeld ?_
  rotate_left
  · (intro w hSw; (try dsimp only at hSw); go_simp; try (with_reducible rfl))
  simp only [List.getElem_toArray, List.getElem_cons_succ, List.getElem_cons_zero, Act.put, List.setIfInBounds_toArray, List.set_cons_zero, List.set_cons_succ]
  refine wpAnyH_take (i := 11) (v := ?_) rfl (by kernel_rfl) (by kernel_rfl) (by kernel_rfl) (fun _ _ _ h => h) (Or.inl ⟨rfl, ?_⟩) hHeld ?_
  rotate_left
  · (intro w hSw; (try dsimp only at hSw); go_simp; try (with_reducible rfl))
  simp only [List.getElem_toArray, List.getElem_cons_succ, List.getElem_cons_zero, Act.put, List.setIfInBounds_toArray, List.set_cons_zero, List.set_cons_succ]
  refine wpAnyH_ready (rs := [12]) (by kernel_rfl) (by simp) ?_
  refine AllReadyH.cons rfl (fun K hK => ?_) AllReadyH.nil
  simp only [List.getElem_toArray, List.getElem_cons_succ, List.getElem_cons_zero]
  go_simp
  go_wp2_with (first | (go_at_call 30; refine (D5.out _ ((Fr.refl [] w6).drew)).mono ?_; rintro e w7 ⟨a7, c7, rfl, hM7, hG1, hfr7⟩))
  refine hK.out _ _ (by first | (exact KP.out _ (((Fr.refl [] w6).drew).trans hG1 (by simp))) | go_keep) (fun hHeld => ?_)
  clear hK K
  refine wpAnyH_take (i := 13) (v := ?_) rfl (by kernel_rfl) (by kernel_rfl) (by kernel_rfl) (fun _ _ _ h => h) (Or.inl ⟨rfl, ?_⟩) hHeld ?_
  rotate_left
  · (intro w hSw; (try dsimp only at hSw); go_simp; try (with_reducible rfl))
  simp only [List.getElem_toArray, List.getElem_cons_succ, List.getElem_cons_zero, Act.put, List.setIfInBounds_toArray, List.set_cons_zero, List.set_cons_succ]
  refine wpAnyH_take (i := 14) (v := ?_) rfl (by kernel_rfl) (by kernel_rfl) (by kernel_rfl) (fun _ _ _ h => h) (Or.inl ⟨rfl, ?_⟩) hHeld ?_
  rotate_left
  · (intro w hSw; (try dsimp only at hSw); go_simp; try (with_reducible rfl))
  simp only [List.getElem_toArray, List.getElem_cons_succ, List.getElem_cons_zero, Act.put, List.setIfInBounds_toArray, List.set_cons_zero, List.set_cons_succ]
  refine wpAnyH_take (i := 15) (v := ?_) rfl (by kernel_rfl) (by kernel_rfl) (by kernel_rfl) (fun _ _ _ h => h) (Or.inl ⟨rfl, ?_⟩) hHeld ?_
  rotate_left
  · (intro w hSw; (try dsimp only at hSw); go_simp; try (with_reducible rfl))
  simp only [List.getElem_toArray, List.getElem_cons_succ, List.getElem_cons_zero, Act.put, List.setIfInBounds_toArray, List.set_cons_zero, List.set_cons_succ]
  refine wpAnyH_take (i := 16) (v := ?_) rfl (by kernel_rfl) (by kernel_rfl) (by kernel_rfl) (fun _ _ _ h => h) (Or.inl ⟨rfl, ?_⟩) hHeld ?_
  rotate_left
  · (intro w hSw; (try dsimp only at hSw); go_simp; try (with_reducible rfl))
  simp only [List.getElem_toArray, List.getElem_cons_succ, List.getElem_cons_zero, Act.put, List.setIfInBounds_toArray, List.set_cons_zero, List.set_cons_succ]
  refine wpAnyH_take (i := 17) (v := ?_) rfl (by kernel_rfl) (by kernel_rfl) (by kernel_rfl) (fun _ _ _ h => h) (Or.inl ⟨rfl, ?_⟩) hHeld ?_
  rotate_left
  · (intro w hSw; (try dsimp only at hSw); go_simp; try (with_reducible rfl))
  simp only [List.getElem_toArray, List.getElem_cons_succ, List.getElem_cons_zero, Act.put, List.setIfInBounds_toArray, List.set_cons_zero, List.set_cons_succ]
  refine wpAnyH_done (by kernel_rfl) ?_ _
  have F67 := Lib.hid (((Fr.refl [] w6).drew).trans hG1 (by simp))
  have F7 := Lib.hid (F6.out.trans F67.out (by simp))
  have M7 := Lib.hid hM7
  have HFR := Lib.hid (fun q (hq : Holds a7 M.length q) => (by obtain ⟨_, o, ho⟩ := hq; exact .inr (Nat.le_trans F6.out.size (hfr7 q o ho)) : Holds (R.L.getD p default).a (R.L.getD p default).m.length q ∨ w.heap.size ≤ q))
  clear hG1 hM7 hfr7 hHeld KP D5
  have KQ := Lib.hid (fun w' (f' : Fr [] w7 w') => (⟨cell_fr' (cell_fr' RR.out.2.1 F7.out) f', cell_fr' (cell_fr' X2.out ((F45.out.trans F56.out (by simp)).trans F67.out (by simp))) f', cell_fr' (cell_fr' (HCY.out 4 _ rfl) F7.out) f'⟩ : w'.cell? ⟨rb, 2, none⟩ = some (.slice (some ⟨g, 0, none⟩) n c) ∧ w'.cell? ⟨x5, 2, none⟩ = some (.int .i64 p) ∧ w'.cell? ⟨g, p * 5 + 4, none⟩ = some (.slice y.a y.m.length y.c)))
  go_wp2_with fail
  refine wp_region_last (S := (fun w' => w'.cell? ⟨rb, 2, none⟩ = some (.slice (some ⟨g, 0, none⟩) n c) ∧ w'.cell? ⟨x5, 2, none⟩ = some (.int .i64 p) ∧ w'.cell? ⟨g, p * 5 + 4, none⟩ = some (.slice y.a y.m.length y.c))) 9 (by kernel_rfl) (KQ.out _ ((Fr.refl [] w7).drew)) (fun hHeld => ?_)
  refine wpAnyL_take (i := 0) (v := ?_) rfl (by kernel_rfl) (by kernel_rfl) (by kernel_rfl) (by kernel_rfl) (fun _ _ _ h => h) (Or.inl ⟨rfl, ?_⟩) hHeld ?_
  rotate_left
  · (intro w hSw; (try dsimp only at hSw); go_simp; try (with_reducible rfl))
  simp only [List.getElem_toArray, List.getElem_cons_succ, List.getElem_cons_zero, Act.put, List.setIfInBounds_toArray, List.set_cons_zero, List.set_cons_succ]
  refine wpAnyL_take (i := 1) (v := ?_) rfl (by kernel_rfl) (by kernel_rfl) (by kernel_rfl) (by kernel_rfl) (fun _ _ _ h => h) (Or.inl ⟨rfl, ?_⟩) hHeld ?_
  rotate_left
  · (intro w hSw; (try dsimp only at hSw); go_simp; try (with_reducible rfl))
  simp only [List.getElem_toArray, List.getElem_cons_succ, List.getElem_cons_zero, Act.put, List.setIfInBounds_toArray, List.set_cons_zero, List.set_cons_succ]
  refine wpAnyL_take (i := 2) (v := ?_) rfl (by kernel_rfl) (by kernel_rfl) (by kernel_rfl) (by kernel_rfl) (fun _ _ _ h => h) (Or.inl ⟨rfl, ?_⟩) hHeld ?_
  rotate_left
  · (intro w hSw; (try dsimp only at hSw); go_simp; try (with_reducible rfl))
  simp only [List.getElem_toArray, List.getElem_cons_succ, List.getElem_cons_zero, Act.put, List.setIfInBounds_toArray, List.set_cons_zero, List.set_cons_succ]
  refine wpAnyL_take (i := 3) (v := ?_) rfl (by kernel_rfl) (by kernel_rfl) (by kernel_rfl) (by kernel_rfl) (fun _ _ _ h => h) (Or.inl ⟨rfl, ?_⟩) hHeld ?_
  rotate_left
  · (intro w hSw; (try dsimp only at hSw); go_simp; try (with_reducible rfl))
  simp only [List.getElem_toArray, List.getElem_cons_succ, List.getElem_cons_zero, Act.put, List.setIfInBounds_toArray, List.set_cons_zero, List.set_cons_succ]
  refine wpAnyL_take (i := 4) (v := ?_) rfl (by kernel_rfl) (by kernel_rfl) (by kernel_rfl) (by kernel_rfl) (fun _ _ _ h => h) (Or.inl ⟨rfl, ?_⟩) hHeld ?_
  rotate_left
  · (intro w hSw; (try dsimp only at hSw); go_simp; try (with_reducible rfl))
  simp only [List.getElem_toArray, List.getElem_cons_succ, List.getElem_cons_zero, Act.put, List.setIfInBounds_toArray, List.set_cons_zero, List.set_cons_succ]
  refine wpAnyL_take (i := 5) (v := ?_) rfl (by kernel_rfl) (by kernel_rfl) (by kernel_rfl) (by kernel_rfl) (fun _ _ _ h => h) (Or.inl ⟨rfl, ?_⟩) hHeld ?_
  rotate_left
  · (intro w hSw; (try dsimp only at hSw); go_simp; try (with_reducible rfl))
  simp only [List.getElem_toArray, List.getElem_cons_succ, List.getElem_cons_zero, Act.put, List.setIfInBounds_toArray, List.set_cons_zero, List.set_cons_succ]
  refine wpAnyL_take (i := 6) (v := ?_) rfl (by kernel_rfl) (by kernel_rfl) (by kernel_rfl) (by kernel_rfl) (fun _ _ _ h => h) (Or.inl ⟨rfl, ?_⟩) hHeld ?_
  rotate_left
  · (intro w hSw; (try dsimp only at hSw); go_simp; try (with_reducible rfl))
  simp only [List.getElem_toArray, List.getElem_cons_succ, List.getElem_cons_zero, Act.put, List.setIfInBounds_toArray, List.set_cons_zero, List.set_cons_succ]
  refine wpAnyL_ready (rs := [7]) (by kernel_rfl) (by simp) ?_
  refine AllReadyL.cons rfl (fun K hK => ?_) AllReadyL.nil
  simp only [List.getElem_toArray, List.getElem_cons_succ, List.getElem_cons_zero]
  go_simp
  refine hK.out _ _ (hHeld) (fun hHeld => ?_)
  clear hK K
  try simp only [List.getElem_toArray, List.getElem_cons_succ, List.getElem_cons_zero, Act.put, List.setIfInBounds_toArray, List.set_cons_zero, List.set_cons_succ]
  refine wpAnyL_take (i := 8) (v := ?_) rfl (by kernel_rfl) (by kernel_rfl) (by kernel_rfl) (by kernel_rfl) (fun _ _ _ h => h) (Or.inl ⟨rfl, ?_⟩) hHeld ?_
  rotate_left
  · (intro w hSw; (try dsimp only at hSw); go_simp; try (with_reducible rfl))
  simp only [List.getElem_toArray, List.getElem_cons_succ, List.getElem_cons_zero, Act.put, List.setIfInBounds_toArray, List.set_cons_zero, List.set_cons_succ]
  have z7 := hHeld.2.2
  have y7 : w7.drew.frozen? ⟨g, p * 5 + 4, none⟩ = false := (HH.out.fr (F7.out.trans ((Fr.refl [] w7).drew) (by simp))).frozen HV.out _
  refine wpAnyL_ready (rs := [9]) (by kernel_rfl) (by simp) ?_
  refine AllReadyL.end_ rfl (fun K hK => ?_)
  simp only [List.getElem_toArray, List.getElem_cons_succ, List.getElem_cons_zero]
  go_simp
  refine hK.out _ _ ?_
  clear hK K
  try simp only [List.getElem_toArray, List.getElem_cons_succ, List.getElem_cons_zero, Act.put, List.setIfInBounds_toArray, List.set_cons_zero, List.set_cons_succ]
  refine wpAnyL_done (by kernel_rfl) ?_ _
  have N1 := Lib.hid (show NextR rb R (R.setN p { R.L.getD p default with a := a7, c := c7, m := M }) w ((w7.setCell ⟨g, p * 5 + 4, none⟩ (.slice a7 M.length c7)).drew) from
    (setn_fin HH.out (by rw [← HN.out]; exact hp) F7.out HV.out (by omega) rfl M7.out HFR.out).post ((Fr.refl [] _).drew))
  obtain ⟨w8, hw8⟩ : ∃ v, (w7.setCell ⟨g, p * 5 + 4, none⟩ (.slice a7 M.length c7)).drew = v := ⟨_, rfl⟩
  rw [hw8] at N1 ⊢
  obtain ⟨R1, hR1⟩ : ∃ R1, R.setN p { R.L.getD p default with a := a7, c := c7, m := M } = R1 := ⟨_, rfl⟩
  rw [hR1] at N1
  have hlen1 : R1.L.length = n := by rw [← hR1, HN.out]; exact List.length_set
  have hlv1 : R1.lv = R.lv := by rw [← hR1]; rfl
  have hg1 : R1.L.getD k default = x := by rw [← hR1, ← HXE.out]; exact (getD_setN (by rw [← HN.out]; exact hp) _ k).trans (if_neg (Ne.symm hpk'))
  have HV1 := Lib.hid (show R1.lv = .slice (some ⟨g, 0, none⟩) R1.L.length c by rw [hlv1, HV.out, hlen1, ← HN.out])
  obtain ⟨g3, c3, hv3, _, _, hc3⟩ := N1.out.1.node (i := k) (by rw [hlen1]; exact hk)
  rw [HV1.out] at hv3
  simp only [Value.slice.injEq, Option.some.injEq, Addr.mk.injEq] at hv3
  obtain ⟨⟨rfl, _⟩, _, rfl⟩ := hv3
  rw [hg1] at hc3
  have e0 : w8.cell? ⟨g, k * 5, none⟩ = some (.bool x.lives) := hc3 0 _ rfl
  have e2 : w8.cell? ⟨rb, 2, none⟩ = some (.slice (some ⟨g, 0, none⟩) n c) := by
    have := N1.out.1.head.cell 2
    rw [this]
    show some R1.lv = _
    rw [hlv1, HV.out, ← HN.out]
  have y8 : w8.frozen? ⟨g, k * 5, none⟩ = false := N1.out.1.frozen HV1.out _
  have N2 := Lib.hid (show NextR rb R (R1.setN k { R1.L.getD k default with lives := false }) w (w8.setCell ⟨g, k * 5 + 0, none⟩ (.bool false)) from
    N1.out.trans (setn_fin N1.out.1 (by rw [hlen1]; exact hk) (Fr.refl [] w8) HV1.out (by omega) rfl (by have := N1.out.1.mks (R1.L.getD k default) (getD_memD R1.L k (by rw [hlen1]; exact hk)); exact this) (fun q hq => .inl hq)))
  have HP2 := Lib.hid (show (R1.setN k { R1.L.getD k default with lives := false }).pl = { R.pl with L := (R.pl.L.map (PI.setm (p : Int) M)).filter (fun z => decide (z.id ≠ (k : Int))) } by
    have hl2 : (R1.setN k { R1.L.getD k default with lives := false }).L.length = R.L.length := by
      show (R1.L.set k _).length = _
      rw [List.length_set, hlen1, HN.out]
    refine PT.ext (by rw [← hR1]; rfl) (by rw [← hR1]; rfl) ?_ hl2
    show liveN (R1.L.set k { R1.L.getD k default with lives := false }) (R1.setN k { R1.L.getD k default with lives := false }).L.length = _
    rw [hl2, liveN_dead R1.L (by rw [hlen1]; exact hk)]
    congr 1
    rw [← hR1]
    exact liveN_setM R.L (by rw [← HN.out]; exact hp) a7 c7 M _)
  rw [show k * 5 + 0 = k * 5 by omega] at N2
  clear hlen1 hlv1 hg1 hc3 hw8 hR1 z7 y7 hHeld KQ
  go_wp2_with fail
  go_ret
  exact ⟨_, by rw [E2.out]; rfl, by rw [E2.out]; exact HP2.out, N2.out⟩
end Go.Proofs.Ytclkahggfdnpgaa

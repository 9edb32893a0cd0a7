/- The tree: New. (Printed by gentr16.py.) -/
import Derived.Test.YtclkahggfdnpgaaTr15
set_option linter.unusedVariables false
set_option linter.unusedSimpArgs false
namespace Go.Proofs.Ytclkahggfdnpgaa
open Go.RowKit
theorem agg25 (w : World) : (isAgg 25).run Try.prog w = .ok true w := by kernel_rfl
theorem size25 : (Try.prog.info? 25).map (·.size) = some 2 := by kernel_rfl
theorem zero25 : (Try.prog.info? 25).map (fun i => (i.size, i.zero.map (·.cells.size))) = some (2, some 2) := by kernel_rfl
theorem ev_len (x : EvD) : x.cells.length = 6 := rfl
theorem ev_one (x : EvD) : ∀ v ∈ x.cells, v.oneCell' = true := by
  intro v hv
  unfold EvD.cells at hv
  simp at hv
  rcases hv with rfl | rfl | rfl | rfl | rfl | rfl <;> rfl
theorem tie_len (x : TieD) : x.cells.length = 4 := rfl
theorem tie_one (x : TieD) : ∀ v ∈ x.cells, v.oneCell' = true := by
  intro v hv
  unfold TieD.cells at hv
  simp at hv
  rcases hv with rfl | rfl | rfl | rfl <;> rfl
set_option maxHeartbeats 4000000 in
set_option maxRecDepth 100000 in
theorem new_any (p : ProgD) (w : World) (h : ProgAt w p) :
    Calls Try.prog 37 #[p.val] w (NewP p w) := by
  have HH := Lib.hid h
  have hfew := h.few
  have hfew2 := h.few2
  have FA := Lib.hid ((Fr.refl [] w).alloc (.cells #[.slice p.pa p.Fs.length p.pc, .slice p.ca p.Cs.length p.cc] 62))
  have RB := Lib.hid (Row.new w [.slice p.pa p.Fs.length p.pc, .slice p.ca p.Cs.length p.cc] 62)
  have CM := Lib.hid (fun w' f => may_any p w' (h.fr f))
  unfold ProgD.val at CM ⊢
  obtain ⟨pa, hpa0⟩ : ∃ a, a = p.pa := ⟨_, rfl⟩
  obtain ⟨ca, hca0⟩ : ∃ a, a = p.ca := ⟨_, rfl⟩
  rw [← hpa0, ← hca0] at CM FA RB ⊢
  have HPA := Lib.hid hpa0
  have HCA0 := Lib.hid hca0
  clear hpa0 hca0
  obtain ⟨n, hn⟩ : ∃ n, n = p.Fs.length := ⟨_, rfl⟩
  obtain ⟨m, hm⟩ : ∃ n, n = p.Cs.length := ⟨_, rfl⟩
  rw [← hn, ← hm] at CM FA RB ⊢
  rw [← hn] at hfew
  rw [← hm] at hfew2
  have HN := Lib.hid hn
  have HM := Lib.hid hm
  obtain ⟨mb, hmb⟩ : ∃ b, mayB p.Fs p.Cs = b := ⟨_, rfl⟩
  rw [hmb] at CM
  have HMB := Lib.hid hmb
  clear h hn hm hmb
  have C1 := CM.out _ FA.out
  go_enter Try.func37, Try.ntmps37
  go_wp2_with fail
  refine C1.mono ?_
  rintro e w1 ⟨rfl, hF1⟩
  have F1 := Lib.hid (FA.out.trans hF1 (by simp))
  have R1 := Lib.hid (RB.out.fr hF1 (by simp))
  clear hF1 C1 CM FA RB
  cases mb
  · go_wp2_with fail
    go_ret2
    exact .inl ⟨HMB.out, rfl, F1.out⟩
  have hmk : ∀ w, (Instr.makeMap 95 none).run Try.prog w = .ok (.map (some w.heap.size)) (w.alloc (.map #[] 0)) := fun w => rfl
  have r0 : w1.cell? ⟨w.heap.size, 0, none⟩ = some (.slice pa n p.pc) := R1.out.cell 0
  have l0 := World.block_lt_of_cell? w1 _ r0
  have HL0 := Lib.hid l0
  go_wp2_with fail
  obtain ⟨w2, hw2⟩ : ∃ w2, w2 = (w1.alloc (.map #[] 0)).alloc (.cells #[.slice none 0 0, .map (some w1.heap.size), .slice none 0 0, .int .i64 0] 120) := ⟨_, rfl⟩
  have hF2 : Fr [] w1 w2 := by rw [hw2]; exact ((Fr.refl [] w1).alloc _).alloc _
  have hN2 : NewJ w w2 (w1.heap.size + 1) w1.heap.size (.slice none 0 0) p.Fs [] 0 0 (fun _ => none) := by
    have h1 := Row.new (w1.alloc (.map #[] 0)) [.slice none 0 0, .map (some w1.heap.size), .slice none 0 0, .int .i64 0] 120
    have h2 := (MapA.made (K := pairK) (val := CallD.val) w1).fr ((Fr.refl [] (w1.alloc (.map #[] 0))).alloc (.cells #[.slice none 0 0, .map (some w1.heap.size), .slice none 0 0, .int .i64 0] 120)) (by simp)
    have hsz : (w1.alloc (.map #[] 0)).heap.size = w1.heap.size + 1 := by simp
    rw [hsz] at h1
    rw [hw2] at hF2 ⊢
    exact ⟨F1.out.trans hF2 (by simp), F1.out.size, by omega, h1, World.ownsRow_nil _ _ _ _, rfl, by simp, by simp, by omega, h2⟩
  rw [← hw2]
  have N2 := Lib.hid hN2
  have R2 := Lib.hid (R1.out.fr hF2 (by simp))
  have HCM := Lib.hid F1.out.size
  clear hw2 hF2 hN2 F1 R1 r0 l0
  generalize w1.heap.size = cm at *
  clear hmk
  go_loopg [6, 18] n (fun k u6 i wr => ∃ (j : Nat) (v : Value) (Gs : List FlatD), k = n - j ∧ j ≤ n ∧ i = .int .i64 j ∧ NewJ w wr (cm + 1) cm v p.Fs Gs j 0 (fun _ => none) ∧ Row wr w.heap.size [.slice pa n p.pc, .slice ca m p.cc] 62)
  case atStart => exact ⟨0, _, [], rfl, by omega, rfl, N2.out, R2.out⟩
  case round =>
    obtain ⟨j, v, Gs, rfl, hj, rfl, hN, hR⟩ := hrel
    have NJ := Lib.hid hN
    have RJ := Lib.hid hR
    clear hN hR
    by_cases hjn : j < n
    · have hd : decide (j < n) = true := decide_eq_true hjn
      obtain ⟨gt, ot, hpa, hgt, hct⟩ := (HH.out.rows.fr NJ.out.fr).at_ (by rw [← HN.out]; omega)
      have hcx := hct j (by rw [← HN.out]; exact hjn)
      obtain ⟨f, hf⟩ : ∃ f, p.Fs.getD j default = f := ⟨_, rfl⟩
      rw [hf] at hcx
      have HQ := Lib.hid hf
      have hff : FlatAt wr f := by rw [← hf]; exact (HH.out.flats _ (getD_memD _ _ (by rw [← HN.out]; exact hjn))).fr NJ.out.fr
      have FF := Lib.hid hff
      have hc' : ∀ k v, ([.slice f.ea f.en f.ec, .slice f.ta f.tn f.tc] : List Value)[k]? = some v → wr.cell? ⟨gt, ot + j * 2 + k, none⟩ = some v := hcx
      have HC := Lib.hid hc'
      have hpa2 := HPA.out.trans hpa
      subst hpa2
      obtain ⟨a, c, hv⟩ := NJ.out.form
      subst hv
      clear hcx hc' hct hf hpa hff hgt
      have c0 := RJ.out.cell 0
      go_wp2_with (first | ((with_reducible refine wpList_load_at rfl 25 (.tmp 20) rfl agg25 2 size25 gt (ot + j * 2) [.slice f.ea f.en f.ec, .slice f.ta f.tn f.tc] rfl HC.out ?_ ?_); exact rfl) | ((with_reducible refine wpList_var_agg rfl rfl 25 (.tmp 6) (.tmp 21) rfl rfl 2 zero25 [.slice f.ea f.en f.ec, .slice f.ta f.tn f.tc] rfl ?_ ?_ ?_ ?_); (intro u hu; simp at hu; rcases hu with rfl | rfl <;> rfl); exact rfl; exact rfl))
      intro w3 hr3 hs3 hf3
      have R3 := Lib.hid hr3
      have F3 := Lib.hid hf3
      have hlt3 : wr.heap.size < w3.heap.size := by omega
      have N3 := Lib.hid (NJ.out.keep hf3)
      have HO := Lib.hid (fun y (hy : (Value.slice a j c).ownBlock = some y) => NJ.out.own.lt y hy)
      have HTL := Lib.hid NJ.out.head.lt
      have KEEP := Lib.hid (fun W' (f' : Fr (Value.slice a j c).ownBlock.toList w3 W') => by
        have n1 : cm + 1 ∉ (Value.slice a j c).ownBlock.toList := fun hy => by have := (HO.out (cm + 1) (by simpa using hy)).1; omega
        have n2 : wr.heap.size ∉ (Value.slice a j c).ownBlock.toList := fun hy => by have := (HO.out wr.heap.size (by simpa using hy)).2; omega
        exact ⟨(N3.out.head.fr f' n1).cell 0, (R3.out.fr f' n2).cell 0, (R3.out.fr f' n2).cell 1⟩ : ∀ W', Fr (Value.slice a j c).ownBlock.toList w3 W' → (W'.cell? ⟨cm + 1, 0, none⟩ = some (.slice a j c) ∧ W'.cell? ⟨wr.heap.size, 0, none⟩ = some (.slice f.ea f.en f.ec) ∧ W'.cell? ⟨wr.heap.size, 1, none⟩ = some (.slice f.ta f.tn f.tc)))
      have D1 := Lib.hid (clone72_any f.ea f.en f.ec (fun i => (f.E.getD i default).cells) w3.drew (fun i => ev_len _) (fun i => ev_one _) FF.out.few ((FF.out.evs.2.fr hf3).fr ((Fr.refl [] w3).drew)))
      have D2 := Lib.hid (fun w' (f' : Fr [] w3 w') => clone73_any f.ta f.tn f.tc (fun i => (f.T.getD i default).cells) w' (fun i => tie_len _) (fun i => tie_one _) FF.out.few2 ((FF.out.ties.2.fr F3.out).fr f'))
      clear hr3 hs3 hf3 c0
      go_wp2_with fail
      refine wp_region_last (S := (fun W' => W'.cell? ⟨cm + 1, 0, none⟩ = some (.slice a j c) ∧ W'.cell? ⟨wr.heap.size, 0, none⟩ = some (.slice f.ea f.en f.ec) ∧ W'.cell? ⟨wr.heap.size, 1, none⟩ = some (.slice f.ta f.tn f.tc))) 16 (by kernel_rfl) (KEEP.out _ ((Fr.refl _ w3).drew)) (fun hHeld => ?_)
      refine wpAnyL_take (i := 0) (v := ?_) rfl (by kernel_rfl) (by kernel_rfl) (by kernel_rfl) (by kernel_rfl) (fun _ _ _ h => h) (Or.inl ⟨rfl, ?_⟩) hHeld ?_
      rotate_left
      · (intro w hSw; (try dsimp only at hSw); go_simp; try (with_reducible rfl))
      simp only [List.getElem_toArray, List.getElem_cons_succ, List.getElem_cons_zero, Act.put, List.setIfInBounds_toArray, List.set_cons_zero, List.set_cons_succ]
      refine wpAnyL_take (i := 1) (v := ?_) rfl (by kernel_rfl) (by kernel_rfl) (by kernel_rfl) (by kernel_rfl) (fun _ _ _ h => h) (Or.inl ⟨rfl, ?_⟩) hHeld ?_
      rotate_left
      · (intro w hSw; (try dsimp only at hSw); go_simp; try (with_reducible rfl))
      simp only [List.getElem_toArray, List.getElem_cons_succ, List.getElem_cons_zero, Act.put, List.setIfInBounds_toArray, List.set_cons_zero, List.set_cons_succ]
      refine wpAnyL_take (i := 2) (v := ?_) rfl (by kernel_rfl) (by kernel_rfl) (by kernel_rfl) (by kernel_rfl) (fun _ _ _ h => h) (Or.inl ⟨rfl, ?_⟩) hHeld ?_
      rotate_left
      · (intro w hSw; (try dsimp only at hSw); go_simp; try (with_reducible rfl))
      simp only [List.getElem_toArray, List.getElem_cons_succ, List.getElem_cons_zero, Act.put, List.setIfInBounds_toArray, List.set_cons_zero, List.set_cons_succ]
      refine wpAnyL_take (i := 3) (v := ?_) rfl (by kernel_rfl) (by kernel_rfl) (by kernel_rfl) (by kernel_rfl) (fun _ _ _ h => h) (Or.inl ⟨rfl, ?_⟩) hHeld ?_
      rotate_left
      · (intro w hSw; (try dsimp only at hSw); go_simp; try (with_reducible rfl))
      simp only [List.getElem_toArray, List.getElem_cons_succ, List.getElem_cons_zero, Act.put, List.setIfInBounds_toArray, List.set_cons_zero, List.set_cons_succ]
      refine wpAnyL_take (i := 4) (v := ?_) rfl (by kernel_rfl) (by kernel_rfl) (by kernel_rfl) (by kernel_rfl) (fun _ _ _ h => h) (Or.inl ⟨rfl, ?_⟩) hHeld ?_
      rotate_left
      · (intro w hSw; (try dsimp only at hSw); go_simp; try (with_reducible rfl))
      simp only [List.getElem_toArray, List.getElem_cons_succ, List.getElem_cons_zero, Act.put, List.setIfInBounds_toArray, List.set_cons_zero, List.set_cons_succ]
      refine wpAnyL_take (i := 5) (v := ?_) rfl (by kernel_rfl) (by kernel_rfl) (by kernel_rfl) (by kernel_rfl) (fun _ _ _ h => h) (Or.inl ⟨rfl, ?_⟩) hHeld ?_
      rotate_left
      · (intro w hSw; (try dsimp only at hSw); go_simp; try (with_reducible rfl))
      simp only [List.getElem_toArray, List.getElem_cons_succ, List.getElem_cons_zero, Act.put, List.setIfInBounds_toArray, List.set_cons_zero, List.set_cons_succ]
      refine wpAnyL_take (i := 6) (v := ?_) rfl (by kernel_rfl) (by kernel_rfl) (by kernel_rfl) (by kernel_rfl) (fun _ _ _ h => h) (Or.inl ⟨rfl, ?_⟩) hHeld ?_
      rotate_left
      · (intro w hSw; (try dsimp only at hSw); go_simp; try (with_reducible rfl))
      simp only [List.getElem_toArray, List.getElem_cons_succ, List.getElem_cons_zero, Act.put, List.setIfInBounds_toArray, List.set_cons_zero, List.set_cons_succ]
      refine wpAnyL_take (i := 8) (v := ?_) rfl (by kernel_rfl) (by kernel_rfl) (by kernel_rfl) (by kernel_rfl) (fun _ _ _ h => h) (Or.inl ⟨rfl, ?_⟩) hHeld ?_
      rotate_left
      · (intro w hSw; (try dsimp only at hSw); go_simp; try (with_reducible rfl))
      simp only [List.getElem_toArray, List.getElem_cons_succ, List.getElem_cons_zero, Act.put, List.setIfInBounds_toArray, List.set_cons_zero, List.set_cons_succ]
      refine wpAnyL_take (i := 9) (v := ?_) rfl (by kernel_rfl) (by kernel_rfl) (by kernel_rfl) (by kernel_rfl) (fun _ _ _ h => h) (Or.inl ⟨rfl, ?_⟩) hHeld ?_
      rotate_left
      · (intro w hSw; (try dsimp only at hSw); go_simp; try (with_reducible rfl))
      simp only [List.getElem_toArray, List.getElem_cons_succ, List.getElem_cons_zero, Act.put, List.setIfInBounds_toArray, List.set_cons_zero, List.set_cons_succ]
      refine wpAnyL_ready (rs := [7]) (by kernel_rfl) (by simp) ?_
      refine AllReadyL.cons rfl (fun K hK => ?_) AllReadyL.nil
      simp only [List.getElem_toArray, List.getElem_cons_succ, List.getElem_cons_zero]
      go_simp
      go_wp2_with (first | (go_at_call 72; refine D1.out.mono ?_; rintro e w4 ⟨a4, c4, rfl, hR4, hF4⟩))
      refine hK.out _ _ (KEEP.out _ (((Fr.refl _ w3).drew).trans hF4 (by simp))) (fun hHeld => ?_)
      clear hK K
      try simp only [List.getElem_toArray, List.getElem_cons_succ, List.getElem_cons_zero, Act.put, List.setIfInBounds_toArray, List.set_cons_zero, List.set_cons_succ]
      have F4 := Lib.hid (((Fr.refl [] w3).drew).trans hF4 (by simp))
      have R4 := Lib.hid hR4
      clear hR4 hF4
      refine wpAnyL_ready (rs := [10]) (by kernel_rfl) (by simp) ?_
      refine AllReadyL.cons rfl (fun K hK => ?_) AllReadyL.nil
      simp only [List.getElem_toArray, List.getElem_cons_succ, List.getElem_cons_zero]
      go_simp
      go_wp2_with (first | (go_at_call 73; refine (D2.out _ F4.out).mono ?_; rintro e w5 ⟨a5, c5, rfl, hR5, hF5⟩))
      refine hK.out _ _ (KEEP.out _ ((F4.out.trans hF5 (by simp)).mono (by simp))) (fun hHeld => ?_)
      clear hK K
      try simp only [List.getElem_toArray, List.getElem_cons_succ, List.getElem_cons_zero, Act.put, List.setIfInBounds_toArray, List.set_cons_zero, List.set_cons_succ]
      have F5 := Lib.hid (F4.out.trans hF5 (by simp))
      have F45 := Lib.hid hF5
      have R5 := Lib.hid hR5
      clear hR5 hF5
      refine wpAnyL_take (i := 11) (v := ?_) rfl (by kernel_rfl) (by kernel_rfl) (by kernel_rfl) (by kernel_rfl) (fun _ _ _ h => h) (Or.inl ⟨rfl, ?_⟩) hHeld ?_
      rotate_left
      · (intro w hSw; (try dsimp only at hSw); go_simp; try (with_reducible rfl))
      simp only [List.getElem_toArray, List.getElem_cons_succ, List.getElem_cons_zero, Act.put, List.setIfInBounds_toArray, List.set_cons_zero, List.set_cons_succ]
      refine wpAnyL_ready (rs := [12]) (by kernel_rfl) (by simp) ?_
      refine AllReadyL.cons rfl (fun K hK => ?_) AllReadyL.nil
      simp only [List.getElem_toArray, List.getElem_cons_succ, List.getElem_cons_zero]
      go_simp
      refine hK.out _ _ (KEEP.out _ ((F5.out.mono (by simp)).alloc _)) (fun hHeld => ?_)
      clear hK K
      try simp only [List.getElem_toArray, List.getElem_cons_succ, List.getElem_cons_zero, Act.put, List.setIfInBounds_toArray, List.set_cons_zero, List.set_cons_succ]
      have f56 : Fr [] w5 (w5.alloc (.cells #[.slice a4 f.en c4, .slice a5 f.tn c5] 25)) := (Fr.refl [] w5).alloc _
      have hnew : ∀ j u, ([.slice a4 f.en c4, .slice a5 f.tn c5] : List Value)[j]? = some u → (w5.alloc (.cells #[.slice a4 f.en c4, .slice a5 f.tn c5] 25)).cell? ((⟨w5.heap.size, 0, none⟩ : Addr).add j) = some u := by
        intro i u hi
        rw [Addr_add, Nat.zero_add]
        exact ((Row.new w5 [.slice a4 f.en c4, .slice a5 f.tn c5] 25).cell i).trans hi
      have NW := Lib.hid hnew
      have F6 := Lib.hid (F5.out.trans f56 (by simp))
      have F36 := Lib.hid ((F3.out.trans F5.out (by simp)).trans f56 (by simp))
      have hGB : FlatB (w5.alloc (.cells #[.slice a4 f.en c4, .slice a5 f.tn c5] 25)) wr.heap.size (w5.alloc (.cells #[.slice a4 f.en c4, .slice a5 f.tn c5] 25)).heap.size ⟨a4, f.en, c4, a5, f.tn, c5, f.E, f.T⟩ := by
        have s3 := F3.out.size
        have s4 := F4.out.size
        have s5 := F45.out.size
        have s6 := f56.size
        have e3 : w3.drew.heap.size = w3.heap.size := rfl
        refine ⟨FF.out.evs.1, FF.out.ties.1, ?_, ?_, FF.out.few, FF.out.few2⟩
        · exact ((R4.out.fr F45.out (by simp)).fr f56 (by simp)).mono (by omega) (by omega)
        · exact (R5.out.fr f56 (by simp)).mono (by omega) (by omega)
      have GB := Lib.hid hGB
      have OWN6 := Lib.hid (own_frS NJ.out.own F36.out (by simp))
      have hs6 : cm + 1 + 1 ≤ (w5.alloc (.cells #[.slice a4 f.en c4, .slice a5 f.tn c5] 25)).heap.size := by have := F36.out.size; have := HTL.out; omega
      have hb5 : ∃ b, b = w5.heap.size := ⟨_, rfl⟩
      obtain ⟨b5, hb5⟩ := hb5
      rw [← hb5] at NW ⊢
      clear f56 hnew hGB R4 R5 F45 F5 F4 hb5
      generalize w5.alloc (.cells #[.slice a4 f.en c4, .slice a5 f.tn c5] 25) = w6 at *
      refine wpAnyL_ready (rs := [13]) (by kernel_rfl) (by simp) ?_
      refine AllReadyL.cons rfl (fun K hK => ?_) AllReadyL.nil
      refine step_append_rows rfl (.tmp 26) (.tmp 34) 59 25 2 48 rfl Try.underlying59 (by kernel_rfl) (by decide) (by decide) (cm + 1 + 1) (.slice a j c) j _ rfl OWN6.out _ 1 1 [.slice a4 f.en c4, .slice a5 f.tn c5] rfl rfl NW.out (by simp [Value.oneCell']) (by omega) (by omega) ?_
      intro v7 w7 hown7 hgr7 hor7
      have F7 := Lib.hid ((F6.out.mono (by simp)).trans (fr_grown hgr7) (fun y hy => .inl hy) : Fr (Value.slice a j c).ownBlock.toList w3 w7)
      refine hK.out _ _ (KEEP.out _ F7.out) (fun hHeld => ?_)
      clear hK K
      try simp only [List.getElem_toArray, List.getElem_cons_succ, List.getElem_cons_zero, Act.put, List.setIfInBounds_toArray, List.set_cons_zero, List.set_cons_succ]
      obtain ⟨g7, cap7, hv7, hg7, _⟩ := hown7.form (by omega)
      have HN8 := Lib.hid (NJ.out.step F36.out GB.out (by rw [HQ.out]; exact ⟨rfl, rfl, rfl, rfl⟩) hown7 hgr7 hor7)
      have rd7 : Row w7 (cm + 1) [.slice a j c, .map (some cm), .slice none 0 0, .int .i64 0] 120 := N3.out.head.fr F7.out (fun hy => by have := (HO.out (cm + 1) (by simpa using hy)).1; omega)
      have rb7 : Row w7 w.heap.size [.slice (some ⟨gt, ot, none⟩) n p.pc, .slice ca m p.cc] 62 := (RJ.out.fr F3.out (by simp)).fr F7.out (fun hy => by have := (HO.out w.heap.size (by simpa using hy)).1; have := HL0.out; omega)
      have RD7 := Lib.hid rd7
      have RB7 := Lib.hid rb7
      subst hv7
      clear hgr7 hor7 hown7 rd7 rb7
      refine wpAnyL_ready (rs := [14]) (by kernel_rfl) (by simp) ?_
      refine AllReadyL.cons rfl (fun K hK => ?_) AllReadyL.nil
      simp only [List.getElem_toArray, List.getElem_cons_succ, List.getElem_cons_zero]
      go_simp
      refine hK.out _ _ (hHeld) (fun hHeld => ?_)
      clear hK K
      try simp only [List.getElem_toArray, List.getElem_cons_succ, List.getElem_cons_zero, Act.put, List.setIfInBounds_toArray, List.set_cons_zero, List.set_cons_succ]
      refine wpAnyL_take (i := 15) (v := ?_) rfl (by kernel_rfl) (by kernel_rfl) (by kernel_rfl) (by kernel_rfl) (fun _ _ _ h => h) (Or.inl ⟨rfl, ?_⟩) hHeld ?_
      rotate_left
      · (intro w hSw; (try dsimp only at hSw); go_simp; try (with_reducible rfl))
      simp only [List.getElem_toArray, List.getElem_cons_succ, List.getElem_cons_zero, Act.put, List.setIfInBounds_toArray, List.set_cons_zero, List.set_cons_succ]
      have z7 := hHeld.1
      have y7 : w7.frozen? ⟨cm + 1, 0, none⟩ = false := RD7.out.frozen 0
      refine wpAnyL_ready (rs := [16]) (by kernel_rfl) (by simp) ?_
      refine AllReadyL.end_ rfl (fun K hK => ?_)
      simp only [List.getElem_toArray, List.getElem_cons_succ, List.getElem_cons_zero]
      go_simp
      refine hK.out _ _ ?_
      clear hK K
      try simp only [List.getElem_toArray, List.getElem_cons_succ, List.getElem_cons_zero, Act.put, List.setIfInBounds_toArray, List.set_cons_zero, List.set_cons_succ]
      refine wpAnyL_done (by kernel_rfl) ?_ _
      have RB8 := Lib.hid (RB7.out.setCell_other ⟨cm + 1, 0, none⟩ (.slice (some ⟨g7, 0, none⟩) (j + 1) cap7) (by have := HL0.out; show w.heap.size ≠ cm + 1; omega))
      clear KEEP D1 D2 HO hHeld z7 y7
      generalize w7.setCell ⟨cm + 1, 0, none⟩ (.slice (some ⟨g7, 0, none⟩) (j + 1) cap7) = w8 at *
      go_wp2_with fail
      go_roundg (n - (j + 1))
      case measure => omega
      case rel => exact ⟨j + 1, _, _, rfl, by omega, rfl, HN8.out, RB8.out⟩
    · have hd : decide (j < n) = false := decide_eq_false hjn
      have hjm : j = n := by omega
      subst hjm
      have r1 : wr.cell? ⟨w.heap.size, 1, none⟩ = some (.slice ca m p.cc) := RJ.out.cell 1
      clear N2 R2
      go_wp2_with fail
      go_loopg [8, 42] m (fun k u8 i wx => ∃ q : Nat, k = m - q ∧ q ≤ m ∧ i = .int .i64 q ∧ NewJ w wx (cm + 1) cm v p.Fs Gs j q (callsM p.Cs q))
      case atStart => exact ⟨0, rfl, by omega, rfl, NJ.out⟩
      case round =>
        obtain ⟨q, rfl, hq, rfl, hN⟩ := hrel
        have NQ := Lib.hid hN
        clear hN
        by_cases hqm : q < m
        · have hd2 : decide (q < m) = true := decide_eq_true hqm
          obtain ⟨gt, ot, hca, hgt, hct⟩ := (HH.out.calls.fr NQ.out.fr).at_ (by rw [← HM.out]; omega)
          have hcx := hct q (by rw [← HM.out]; exact hqm)
          obtain ⟨d, hdd⟩ : ∃ d, p.Cs.getD q default = d := ⟨_, rfl⟩
          rw [hdd] at hcx
          have HQ := Lib.hid hdd
          have hc' : ∀ k v, ([.int .i64 d.of_, .int .i64 d.at_, .int .i64 d.to_, .bool d.many] : List Value)[k]? = some v → wr.cell? ⟨gt, ot + q * 4 + k, none⟩ = some v := hcx
          have HC := Lib.hid hc'
          have hca2 := HCA0.out.trans hca
          subst hca2
          clear hcx hc' hct hdd hca hgt
          go_wp2_with (first | ((with_reducible refine wpList_load_at rfl 97 (.tmp 44) rfl agg97 4 size97 gt (ot + q * 4) [.int .i64 d.of_, .int .i64 d.at_, .int .i64 d.to_, .bool d.many] rfl HC.out ?_ ?_); exact rfl) | ((with_reducible refine wpList_var_agg rfl rfl 97 (.tmp 8) (.tmp 45) rfl rfl 4 zero97 [.int .i64 d.of_, .int .i64 d.at_, .int .i64 d.to_, .bool d.many] rfl ?_ ?_ ?_ ?_); (intro u hu; simp at hu; rcases hu with rfl | rfl | rfl | rfl <;> rfl); exact rfl; exact rfl))
          intro w3 hr3 hs3 hf3
          have R3 := Lib.hid hr3
          have N3 := Lib.hid (NQ.out.keep hf3)
          have hTL := NQ.out.head.lt
          have KEEP := Lib.hid (fun W' (f' : Fr [] w3 W') =>
            ⟨(N3.out.head.fr f' (by simp)).cell 1, (R3.out.fr f' (by simp)).cell 0, (R3.out.fr f' (by simp)).cell 1, (R3.out.fr f' (by simp)).cell 2, (R3.out.fr f' (by simp)).cell 3⟩ : ∀ W', Fr [] w3 W' → (W'.cell? ⟨cm + 1, 1, none⟩ = some (.map (some cm)) ∧ W'.cell? ⟨wr.heap.size, 0, none⟩ = some (.int .i64 d.of_) ∧ W'.cell? ⟨wr.heap.size, 1, none⟩ = some (.int .i64 d.at_) ∧ W'.cell? ⟨wr.heap.size, 2, none⟩ = some (.int .i64 d.to_) ∧ W'.cell? ⟨wr.heap.size, 3, none⟩ = some (.bool d.many)))
          clear hr3 hs3 hf3
          go_wp2_with fail
          refine wp_region_last (S := (fun W' => W'.cell? ⟨cm + 1, 1, none⟩ = some (.map (some cm)) ∧ W'.cell? ⟨wr.heap.size, 0, none⟩ = some (.int .i64 d.of_) ∧ W'.cell? ⟨wr.heap.size, 1, none⟩ = some (.int .i64 d.at_) ∧ W'.cell? ⟨wr.heap.size, 2, none⟩ = some (.int .i64 d.to_) ∧ W'.cell? ⟨wr.heap.size, 3, none⟩ = some (.bool d.many))) 10 (by kernel_rfl) (KEEP.out _ ((Fr.refl _ w3).drew)) (fun hHeld => ?_)
          refine wpAnyL_take (i := 0) (v := ?_) rfl (by kernel_rfl) (by kernel_rfl) (by kernel_rfl) (by kernel_rfl) (fun _ _ _ h => h) (Or.inl ⟨rfl, ?_⟩) hHeld ?_
          rotate_left
          · (intro w hSw; (try dsimp only at hSw); go_simp; try (with_reducible rfl))
          simp only [List.getElem_toArray, List.getElem_cons_succ, List.getElem_cons_zero, Act.put, List.setIfInBounds_toArray, List.set_cons_zero, List.set_cons_succ]
          refine wpAnyL_take (i := 1) (v := ?_) rfl (by kernel_rfl) (by kernel_rfl) (by kernel_rfl) (by kernel_rfl) (fun _ _ _ h => h) (Or.inl ⟨rfl, ?_⟩) hHeld ?_
          rotate_left
          · (intro w hSw; (try dsimp only at hSw); go_simp; try (with_reducible rfl))
          simp only [List.getElem_toArray, List.getElem_cons_succ, List.getElem_cons_zero, Act.put, List.setIfInBounds_toArray, List.set_cons_zero, List.set_cons_succ]
          refine wpAnyL_take (i := 2) (v := ?_) rfl (by kernel_rfl) (by kernel_rfl) (by kernel_rfl) (by kernel_rfl) (fun _ _ _ h => h) (Or.inl ⟨rfl, ?_⟩) hHeld ?_
          rotate_left
          · (intro w hSw; (try dsimp only at hSw); go_simp; try (with_reducible rfl))
          simp only [List.getElem_toArray, List.getElem_cons_succ, List.getElem_cons_zero, Act.put, List.setIfInBounds_toArray, List.set_cons_zero, List.set_cons_succ]
          refine wpAnyL_take (i := 3) (v := ?_) rfl (by kernel_rfl) (by kernel_rfl) (by kernel_rfl) (by kernel_rfl) (fun _ _ _ h => h) (Or.inl ⟨rfl, ?_⟩) hHeld ?_
          rotate_left
          · (intro w hSw; (try dsimp only at hSw); go_simp; try (with_reducible rfl))
          simp only [List.getElem_toArray, List.getElem_cons_succ, List.getElem_cons_zero, Act.put, List.setIfInBounds_toArray, List.set_cons_zero, List.set_cons_succ]
          refine wpAnyL_take (i := 4) (v := ?_) rfl (by kernel_rfl) (by kernel_rfl) (by kernel_rfl) (by kernel_rfl) (fun _ _ _ h => h) (Or.inl ⟨rfl, ?_⟩) hHeld ?_
          rotate_left
          · (intro w hSw; (try dsimp only at hSw); go_simp; try (with_reducible rfl))
          simp only [List.getElem_toArray, List.getElem_cons_succ, List.getElem_cons_zero, Act.put, List.setIfInBounds_toArray, List.set_cons_zero, List.set_cons_succ]
          refine wpAnyL_take (i := 5) (v := ?_) rfl (by kernel_rfl) (by kernel_rfl) (by kernel_rfl) (by kernel_rfl) (fun _ _ _ h => h) (Or.inl ⟨rfl, ?_⟩) hHeld ?_
          rotate_left
          · (intro w hSw; (try dsimp only at hSw); go_simp; try (with_reducible rfl))
          simp only [List.getElem_toArray, List.getElem_cons_succ, List.getElem_cons_zero, Act.put, List.setIfInBounds_toArray, List.set_cons_zero, List.set_cons_succ]
          refine wpAnyL_take (i := 6) (v := ?_) rfl (by kernel_rfl) (by kernel_rfl) (by kernel_rfl) (by kernel_rfl) (fun _ _ _ h => h) (Or.inl ⟨rfl, ?_⟩) hHeld ?_
          rotate_left
          · (intro w hSw; (try dsimp only at hSw); go_simp; try (with_reducible rfl))
          simp only [List.getElem_toArray, List.getElem_cons_succ, List.getElem_cons_zero, Act.put, List.setIfInBounds_toArray, List.set_cons_zero, List.set_cons_succ]
          refine wpAnyL_take (i := 7) (v := ?_) rfl (by kernel_rfl) (by kernel_rfl) (by kernel_rfl) (by kernel_rfl) (fun _ _ _ h => h) (Or.inl ⟨rfl, ?_⟩) hHeld ?_
          rotate_left
          · (intro w hSw; (try dsimp only at hSw); go_simp; try (with_reducible rfl))
          simp only [List.getElem_toArray, List.getElem_cons_succ, List.getElem_cons_zero, Act.put, List.setIfInBounds_toArray, List.set_cons_zero, List.set_cons_succ]
          refine wpAnyL_take (i := 8) (v := ?_) rfl (by kernel_rfl) (by kernel_rfl) (by kernel_rfl) (by kernel_rfl) (fun _ _ _ h => h) (Or.inl ⟨rfl, ?_⟩) hHeld ?_
          rotate_left
          · (intro w hSw; (try dsimp only at hSw); go_simp; try (with_reducible rfl))
          simp only [List.getElem_toArray, List.getElem_cons_succ, List.getElem_cons_zero, Act.put, List.setIfInBounds_toArray, List.set_cons_zero, List.set_cons_succ]
          refine wpAnyL_take (i := 9) (v := ?_) rfl (by kernel_rfl) (by kernel_rfl) (by kernel_rfl) (by kernel_rfl) (fun _ _ _ h => h) (Or.inl ⟨rfl, ?_⟩) hHeld ?_
          rotate_left
          · (intro w hSw; (try dsimp only at hSw); go_simp; try (with_reducible rfl))
          simp only [List.getElem_toArray, List.getElem_cons_succ, List.getElem_cons_zero, Act.put, List.setIfInBounds_toArray, List.set_cons_zero, List.set_cons_succ]
          obtain ⟨w5, hrun, hm5, hf5⟩ := (N3.out.map.fr ((Fr.refl [] w3).drew) (by simp)).store (t := 95) Try.underlying98 Try.underlying95 d.key d
          have hrun' : (Instr.mapUpdate 95 (.map (some cm)) (.agg #[.int .i64 d.of_, .int .i64 d.at_]) (.agg #[.int .i64 d.of_, .int .i64 d.at_, .int .i64 d.to_, .bool d.many])).run Try.prog w3.drew = .ok () w5 := hrun
          refine wpAnyL_ready (rs := [10]) (by kernel_rfl) (by simp) ?_
          refine AllReadyL.end_ rfl (fun K hK => ?_)
          simp only [List.getElem_toArray, List.getElem_cons_succ, List.getElem_cons_zero]
          go_simp
          refine hK.out _ _ ?_
          clear hK K
          try simp only [List.getElem_toArray, List.getElem_cons_succ, List.getElem_cons_zero, Act.put, List.setIfInBounds_toArray, List.set_cons_zero, List.set_cons_succ]
          refine wpAnyL_done (by kernel_rfl) ?_ _
          have N5 := Lib.hid ((N3.out.keep ((Fr.refl [] w3).drew)).call hf5 hm5)
          have e : callsM p.Cs (q + 1) = fun y => if y = d.key then some d else callsM p.Cs q y := by rw [← HQ.out]; rfl
          rw [← e] at N5
          clear KEEP hHeld hrun hrun' hm5 hf5 e
          go_wp2_with fail
          go_roundg (m - (q + 1))
          case measure => omega
          case rel => exact ⟨q + 1, rfl, by omega, rfl, N5.out⟩
        · have hd2 : decide (q < m) = false := decide_eq_false hqm
          have hqm2 : q = m := by omega
          subst hqm2
          obtain ⟨a, c, hv, hT⟩ := NQ.out.tree (by omega)
          have h1 : 0 < Gs.length := by
            have := HMB.out
            unfold mayB at this
            simp only [Bool.and_eq_true, decide_eq_true_iff] at this
            rw [NQ.out.len, HN.out]
            omega
          obtain ⟨f0, hf0⟩ : ∃ f, Gs.getD 0 default = f := ⟨_, rfl⟩
          have C9 := spawn_any (cm + 1) wr.heap.size ⟨a, c, Gs, cm, callsM p.Cs q, .slice none 0 0, [], 0⟩ 0 (-1) (-1) f0 wr hT h1 hf0 (Nat.le_refl _) (by show 0 ≤ 900; omega) (by show 0 < 40; omega)
          have HF0 := Lib.hid hf0
          have HLEN := Lib.hid NQ.out.len
          clear hT hv h1 hf0 r1
          change Calls Try.prog 74 #[.pointer (some ⟨cm + 1, 0, none⟩), .int .i64 0, .int .i64 (-1), .int .i64 (-1)] _ _ at C9
          go_wp2_with fail
          refine C9.mono ?_
          rintro e w9 ⟨rfl, v9, x9, hx9, hN9⟩
          have HX9 := Lib.hid hx9
          have HN9 := Lib.hid hN9
          clear hx9 hN9 C9
          go_wp2_with fail
          go_ret2
          refine .inr ⟨HMB.out, cm + 1, wr.heap.size, _, rfl, ⟨?_, fun i hi => ?_, ?_, ⟨x9, rfl, ?_⟩, rfl⟩, HN9.out.1, HN9.out.2.1.size, by have := HCM.out; omega, ?_⟩
          · show Gs.length = _
            rw [HLEN.out, HN.out]
          · exact NQ.out.same i (by rw [HN.out]; exact hi)
          · show callsM p.Cs q = _
            rw [HM.out]
          · rw [HX9.out]
            show (_, _, _, _, _) = (_, _, _, _, _)
            rw [← HF0.out]
            rfl
          · exact NQ.out.fr.trans HN9.out.2.1 (fun y hy => by
              have : y = cm + 1 := by simpa [TreeD.blocks, Value.ownBlock] using hy
              have := HCM.out
              exact .inr (by omega))
end Go.Proofs.Ytclkahggfdnpgaa


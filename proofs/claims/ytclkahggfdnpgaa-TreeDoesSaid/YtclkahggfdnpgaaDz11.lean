/- Parts of the proof: Tr12. (Merged by pack.py.) -/
import Derived.Test.YtclkahggfdnpgaaDz10
set_option linter.unusedVariables false
set_option linter.unusedSimpArgs false
namespace Go.Proofs.Ytclkahggfdnpgaa
open Go.RowKit
theorem nodup_getD {L : List InsD} (nd : (L.map (·.b)).Nodup) {m j : Nat} (hm : m < L.length) (hj : j < L.length) (h : m ≠ j) : (L.getD m default).b ≠ (L.getD j default).b := by
  have hnd : (L.map (·.b)).Pairwise (· ≠ ·) := nd
  have hpw := List.pairwise_iff_getElem.1 hnd
  have e : ∀ i (hi : i < L.length), (L.map (·.b))[i]'(by simpa using hi) = (L.getD i default).b := by
    intro i hi
    rw [List.getElem_map, List.getD_eq_getElem?_getD, List.getElem?_eq_getElem hi]
    rfl
  rcases Nat.lt_or_gt_of_ne h with h1 | h1
  · have := hpw m j (by simpa using hm) (by simpa using hj) h1
    rwa [e m hm, e j hj] at this
  · have := hpw j m (by simpa using hj) (by simpa using hm) h1
    rw [e m hm, e j hj] at this
    exact Ne.symm this
theorem nextF_bad {N : List MarkD} {E : Int} {w : World} {e : Ending} {w' : World} (hE : E ≠ 0) (h : NextF N E w e w') : ∃ a c, e = .returned (.tuple #[.slice a 0 c, .int .i64 E]) ∧ Fr [] w w' := by
  obtain ⟨a, c, h1, h2, h3, h4⟩ := h
  rw [if_neg hE] at h1
  exact ⟨a, c, h1, h3⟩
set_option maxHeartbeats 4000000 in
set_option maxRecDepth 100000 in
theorem tend_any (tb hi : Nat) (T : TreeD) (id : Int) (w : World) (h : TreeAt w tb hi T) (hg : Good T) (hhi : hi ≤ w.heap.size) :
    Calls Try.prog 43 #[.pointer (some ⟨tb, 0, none⟩), .int .i64 id] w (EndP tb hi T id w) := by
  have C1 := of_any tb hi T id w h
  have HH := Lib.hid h
  have HG := Lib.hid hg
  clear h hg
  go_enter Try.func43, Try.ntmps43
  go_wp2_with fail
  refine C1.mono ?_
  rintro e w1 ⟨v, rfl, hv, hF⟩
  have F1 := Lib.hid hF
  clear hF C1
  rcases hv with ⟨rfl, hv⟩ | ⟨j, hj, rfl, hid⟩
  · have HV := Lib.hid hv
    clear hv
    go_wp2_with fail
    go_ret
    exact ⟨10, T, rfl, .none HV.out, .refl HH.out (F1.out.alloc _)⟩
  · have hm := getD_memD T.L j hj
    obtain ⟨x, hxe⟩ : ∃ x, T.L.getD j default = x := ⟨_, rfl⟩
    rw [hxe] at hm hid
    have HXE := Lib.hid hxe
    have HJ := Lib.hid hj
    have HM := Lib.hid hm
    have HID := Lib.hid hid
    rw [show (T.L.getD j default).ptr = .pointer (some ⟨x.b, 0, none⟩) by rw [hxe]; rfl]
    have FA := Lib.hid (F1.out.alloc (.cells #[.pointer (some ⟨x.b, 0, none⟩)] 127))
    have RA := Lib.hid (Row.new w1 [.pointer (some ⟨x.b, 0, none⟩)] 127)
    have hs1 : w.heap.size ≤ w1.heap.size := F1.out.size
    clear hm hid hxe hj
    by_cases hz : id = 0
    · have dz : (id == 0) = true := by simpa using hz
      have HZ := Lib.hid hz
      clear hz
      go_wp2_with fail
      go_ret
      exact ⟨1, T, rfl, .root HM.out HID.out HZ.out, .refl HH.out FA.out⟩
    · have dz : (id == 0) = false := by simpa using hz
      have HZ := Lib.hid hz
      clear hz
      have C2 := kids_any tb hi T id (-1) _ (HH.out.fr FA.out)
      have b0 : ∀ W', Fr [] (w1.alloc (.cells #[.pointer (some ⟨x.b, 0, none⟩)] 127)) W' → Row W' w1.heap.size [.pointer (some ⟨x.b, 0, none⟩)] 127 := fun W' f => RA.out.fr f (by simp)
      have B0 := Lib.hid b0
      clear b0
      go_wp2_with fail
      refine C2.mono ?_
      rintro e w3 ⟨vk, rfl, hk, hF3⟩
      obtain ⟨ka, kc, hvk⟩ := own_slice hk
      subst hvk
      have F3 := Lib.hid (FA.out.trans hF3 (by simp))
      have B3 := Lib.hid (B0.out _ hF3)
      rw [List.length_map] at *
      obtain ⟨nk, hnk⟩ : ∃ n, n = (T.L.filter (isKid id (-1))).length := ⟨_, rfl⟩
      rw [← hnk]
      have HNK := Lib.hid hnk
      clear hk hF3 hnk C2
      by_cases hk0 : 0 < nk
      · have dk : decide (0 < nk) = true := decide_eq_true hk0
        have HK0 := Lib.hid hk0
        clear hk0
        go_wp2_with fail
        go_ret
        exact ⟨17, T, rfl, .hold HM.out HID.out HZ.out (by rw [← HNK.out]; exact HK0.out), .refl HH.out F3.out⟩
      · have dk : decide (0 < nk) = false := decide_eq_false hk0
        have HK0 := Lib.hid (show (T.L.filter (isKid id (-1))).length = 0 by rw [← HNK.out]; omega)
        clear hk0
        have b3 : w3.cell? ⟨w1.heap.size, 0, none⟩ = some (.pointer (some ⟨x.b, 0, none⟩)) := B3.out.cell 0
        have x2 : w3.cell? ⟨x.b, 2, none⟩ = some (.slice x.a x.m.length x.c) := cell_fr' (HH.out.cellI HM.out 2) F3.out
        have hl := HG.out.len HM.out
        obtain ⟨f, hf⟩ : ∃ f, T.Fs.getD x.tp default = f := ⟨_, rfl⟩
        have HFE := Lib.hid hf
        have D1 := Lib.hid (flat_any tb hi T x f w3.drew (HH.out.fr (F3.out.drewN 1)) HM.out (HG.out.tp x HM.out) hf)
        have D2 := Lib.hid (fun w' (hF : Fr [] w3.drew w') => acc_any f x.a x.m.length x.c x.m w' ((HH.out.mks x HM.out).fr ((F3.out.drewN 1).trans hF (by simp))) (by omega))
        have KP := Lib.hid (fun w' (hF : Fr [] w3.drew w') => ⟨cell_fr' b3 (((Fr.refl [] w3).drew).trans hF (by simp)), cell_fr' x2 (((Fr.refl [] w3).drew).trans hF (by simp))⟩ : ∀ w', Fr [] w3.drew w' → (w'.cell? ⟨w1.heap.size, 0, none⟩ = some (.pointer (some ⟨x.b, 0, none⟩)) ∧ w'.cell? ⟨x.b, 2, none⟩ = some (.slice x.a x.m.length x.c)))
        obtain ⟨ac, hac⟩ : ∃ b, accB f.en x.m = b := ⟨_, rfl⟩
        rw [hac] at D2
        have HAC := Lib.hid hac
        unfold InsD.ptr at D1
        unfold FlatD.val at D1 D2
        obtain ⟨ml, hml⟩ : ∃ n, n = x.m.length := ⟨_, rfl⟩
        rw [← hml] at x2 D2 KP hl
        clear hac hf hml
        go_wp2_with fail
        go_region_held_law (fun w' => w'.cell? ⟨w1.heap.size, 0, none⟩ = some (.pointer (some ⟨x.b, 0, none⟩)) ∧ w'.cell? ⟨x.b, 2, none⟩ = some (.slice x.a ml x.c)) (first | exact KP.out _ hF4 | exact KP.out _ (hF4.trans hF5 (by simp)) | go_keep) (first | (go_at_call 77; refine D1.out.mono ?_; rintro e w4 ⟨rfl, hF4⟩) | (go_at_call 24; refine (D2.out _ hF4).mono ?_; rintro e w5 ⟨rfl, hF5⟩))
        have f35 := (((Fr.refl [] w3).drew).trans hF4 (by simp)).trans hF5 (by simp)
        have F5 := Lib.hid (F3.out.trans f35 (by simp))
        have B5 := Lib.hid (B3.out.fr f35 (by simp))
        clear hF4 hF5 D1 D2 KP b3 x2 f35
        cases ac
        · go_wp2_with fail
          go_ret
          exact ⟨11, T, rfl, .off HM.out HID.out HZ.out HK0.out (by rw [HFE.out]; exact HAC.out), .refl HH.out F5.out⟩
        · have b5 : w5.cell? ⟨w1.heap.size, 0, none⟩ = some (.pointer (some ⟨x.b, 0, none⟩)) := B5.out.cell 0
          have x3 : w5.cell? ⟨x.b, 3, none⟩ = some (.int .i64 x.par) := cell_fr' (HH.out.cellI HM.out 3) F5.out
          have C5 := of_any tb hi T x.par w5 (HH.out.fr F5.out)
          go_wp2_with fail
          refine C5.mono ?_
          rintro e w6 ⟨v6, rfl, hv6, hF6⟩
          have F6 := Lib.hid (F5.out.trans hF6 (by simp))
          have B6 := Lib.hid (B5.out.fr hF6 (by simp))
          clear hF6 C5 b5 x3
          have hpar := HG.out.par x HM.out (by rw [HID.out]; exact HZ.out)
          rcases hv6 with ⟨rfl, hv6⟩ | ⟨q, hq, rfl, hidq⟩
          · obtain ⟨_, _, _, y, hy, hye, _⟩ := hpar
            exact absurd hye (hv6 y hy)
          · have hmy := getD_memD T.L q hq
            obtain ⟨y, hye⟩ : ∃ y, T.L.getD q default = y := ⟨_, rfl⟩
            rw [hye] at hmy hidq
            have HYE := Lib.hid hye
            have HQ := Lib.hid hq
            have HMY := Lib.hid hmy
            have HIDQ := Lib.hid hidq
            rw [show (T.L.getD q default).ptr = .pointer (some ⟨y.b, 0, none⟩) by rw [hye]; rfl]
            have b6 : w6.cell? ⟨w1.heap.size, 0, none⟩ = some (.pointer (some ⟨x.b, 0, none⟩)) := B6.out.cell 0
            have x4 : w6.cell? ⟨x.b, 4, none⟩ = some (.int .i64 x.ev) := cell_fr' (HH.out.cellI HM.out 4) F6.out
            have y2 : w6.cell? ⟨y.b, 2, none⟩ = some (.slice y.a y.m.length y.c) := cell_fr' (HH.out.cellI HMY.out 2) F6.out
            have hly := HG.out.len HMY.out
            obtain ⟨f2, hf2⟩ : ∃ f, T.Fs.getD y.tp default = f := ⟨_, rfl⟩
            have HFE2 := Lib.hid hf2
            have D1 := Lib.hid (flat_any tb hi T y f2 w6.drew (HH.out.fr (F6.out.drewN 1)) HMY.out (HG.out.tp y HMY.out) hf2)
            have hfB := HH.out.tmpl.flats f2 (by rw [← hf2]; exact HG.out.gf HMY.out)
            have D2 := Lib.hid (fun w' (hF : Fr [] w6.drew w') => do_fresh f2 y.a y.m.length y.c y.m x.ev w' (hfB.at.fr ((F6.out.drewN 1).trans hF (by simp))) ((HH.out.mks y HMY.out).fr ((F6.out.drewN 1).trans hF (by simp))) (by omega))
            have KP := Lib.hid (fun w' (hF : Fr [] w6.drew w') => ⟨cell_fr' b6 (((Fr.refl [] w6).drew).trans hF (by simp)), cell_fr' x4 (((Fr.refl [] w6).drew).trans hF (by simp)), cell_fr' y2 (((Fr.refl [] w6).drew).trans hF (by simp))⟩ : ∀ w', Fr [] w6.drew w' → (w'.cell? ⟨w1.heap.size, 0, none⟩ = some (.pointer (some ⟨x.b, 0, none⟩)) ∧ w'.cell? ⟨x.b, 4, none⟩ = some (.int .i64 x.ev) ∧ w'.cell? ⟨y.b, 2, none⟩ = some (.slice y.a y.m.length y.c)))
            unfold InsD.ptr at D1
            unfold FlatD.val at D1 D2
            obtain ⟨yl, hyl⟩ : ∃ n, n = y.m.length := ⟨_, rfl⟩
            rw [← hyl] at y2 D2 KP hly
            obtain ⟨E, hE⟩ : ∃ E, doE f2 y.m x.ev = E := ⟨_, rfl⟩
            rw [hE] at D2
            have HE := Lib.hid hE
            clear hE hyl hfB hf2 hmy hidq hye hq hpar
            by_cases hE0 : E = 0
            · subst hE0
              have D3 := Lib.hid (fun w' (hF : Fr [] w6.drew w') => (D2.out w' hF).mono fun e w' h => nextF_ok0 h)
              obtain ⟨N, hN⟩ : ∃ N, doM f2 y.m x.ev.toNat = N := ⟨_, rfl⟩
              rw [hN] at D3
              have HN := Lib.hid hN
              clear D2 hN
              go_wp2_with fail
              go_region_held_law (fun w' => w'.cell? ⟨w1.heap.size, 0, none⟩ = some (.pointer (some ⟨x.b, 0, none⟩)) ∧ w'.cell? ⟨x.b, 4, none⟩ = some (.int .i64 x.ev) ∧ w'.cell? ⟨y.b, 2, none⟩ = some (.slice y.a yl y.c)) (first | exact KP.out _ hF7 | exact KP.out _ (hF7.trans hF8 (by simp)) | go_keep) (first | (go_at_call 77; refine D1.out.mono ?_; rintro e w7 ⟨rfl, hF7⟩) | (go_at_call 29; refine (D3.out _ hF7).mono ?_; rintro e w8 ⟨a8, c8, rfl, hM8, hF8, hfr8⟩))
              have f68 := (((Fr.refl [] w6).drew).trans hF7 (by simp)).trans hF8 (by simp)
              have F8 := Lib.hid (F6.out.trans f68 (by simp))
              have B8 := Lib.hid (B6.out.fr f68 (by simp))
              have HFR := Lib.hid (fun g o hg => Nat.le_trans (F6.out.trans (((Fr.refl [] w6).drew).trans hF7 (by simp)) (by simp)).size (hfr8 g o hg) : ∀ g o, a8 = some ⟨g, o, none⟩ → w.heap.size ≤ g)
              have hy8 := (HH.out.ins y HMY.out).fr F8.out (by simp)
              have y8 : w8.cell? ⟨y.b, 2, none⟩ = some (.slice y.a y.m.length y.c) := hy8.cell 2
              have z8 : w8.frozen? ⟨y.b, 2, none⟩ = false := hy8.frozen 2
              have hn1 : NextT tb hi T (setMk T q a8 c8 N) w (w8.setCell ⟨y.b, 2, none⟩ (.slice a8 N.length c8)) := by
                have := setm_fin HH.out HQ.out F8.out (c := c8) hM8 HFR.out
                rwa [HYE.out] at this
              have hyb := (HH.out.ins y HMY.out).lt
              have hb9 : (w8.setCell ⟨y.b, 2, none⟩ (.slice a8 N.length c8)).cell? ⟨w1.heap.size, 0, none⟩ = some (.pointer (some ⟨x.b, 0, none⟩)) := (B8.out.setCell_other ⟨y.b, 2, none⟩ (.slice a8 N.length c8) (by show w1.heap.size ≠ y.b; omega)).cell 0
              have N1 := Lib.hid hn1
              have hlen1 : (setMk T q a8 c8 N).L.length = T.L.length := by show (T.L.set q _).length = _; rw [List.length_set]
              have hj1 : j < (setMk T q a8 c8 N).L.length := by rw [hlen1]; exact HJ.out
              obtain ⟨g, c, C, hv1, hg, hlc, hP, hOwn⟩ := hn1.1.ptrs (by omega)
              have hgl : g < w.heap.size := (HH.out.rowlt (show T.v.ownBlock = some g by have : (setMk T q a8 c8 N).v = T.v := rfl; rw [← this, hv1]; rfl)).2
              have hjb : ((setMk T q a8 c8 N).L.getD j default).b = x.b := by
                rw [setMk_getD HQ.out]
                split
                · rename_i he
                  rw [← HXE.out, he]
                · rw [HXE.out]
              have hne : ∀ m, m < (setMk T q a8 c8 N).L.length → m ≠ j → ((setMk T q a8 c8 N).L.getD m default).b ≠ x.b := fun m hm hmj => by rw [← hjb]; exact nodup_getD hn1.1.nd hm hj1 hmj
              have C9 := delete_any g _ c j w1.heap.size x.b _ C _ hP hb9 (by omega) hj1 hjb hne (by have := hn1.1.few; omega) hlc
              have HOWN := Lib.hid hOwn
              have HV1 := Lib.hid hv1
              have HG1 := Lib.hid hg
              have HJ1 := Lib.hid hj1
              have c9 : (w8.setCell ⟨y.b, 2, none⟩ (.slice a8 N.length c8)).cell? ⟨tb, 2, none⟩ = some (.slice (some ⟨g, 0, none⟩) (setMk T q a8 c8 N).L.length c) := by rw [← hv1]; exact hn1.1.head.cell 2
              have htg : tb ≠ g := by have := HH.out.tbh; omega
              have HER := Lib.hid (fun v => (by
                have := EndR.done (T := T) (id := id) (j := j) (q := q) a8 c8 v HJ.out (by rw [HXE.out]; exact HID.out) HZ.out HK0.out (by rw [HXE.out, HFE.out]; exact HAC.out) HQ.out (by rw [HYE.out, HXE.out]; exact HIDQ.out) (by rw [HYE.out, HXE.out, HFE2.out]; exact HE.out)
                rwa [HYE.out, HXE.out, HFE2.out, HN.out] at this : EndR T id 0 { setMk T q a8 c8 N with v := v, L := (setMk T q a8 c8 N).L.eraseIdx j }))
              clear hn1 hlen1 hj1 hv1 hg hlc hP hOwn hjb hne hy8 hM8 hfr8 hF7 hF8 f68 D1 D3 KP b6 x4 y2 hb9
              generalize hT1 : setMk T q a8 c8 N = T1 at *
              clear hT1
              obtain ⟨n, hn⟩ : ∃ n, n = T1.L.length := ⟨_, rfl⟩
              rw [← hn] at C9 c9
              have HN1 := Lib.hid hn
              clear hn
              generalize hw9 : w8.setCell ⟨y.b, 2, none⟩ (.slice a8 N.length c8) = w9 at *
              go_wp2_with (rw [hw9])
              refine C9.mono ?_
              rintro e w10 ⟨rfl, C', hl10, hr10, hat10, hf10⟩
              have hd10 := N1.out.1.head.fr hf10 (by simp; exact htg)
              have t10 : w10.cell? ⟨tb, 2, none⟩ = some T1.v := hd10.cell 2
              have t11 : w10.frozen? ⟨tb, 2, none⟩ = false := hd10.frozen 2
              have hfin := del_fin N1.out.1 HJ1.out HV1.out HG1.out hr10 (by rw [← HN1.out]; exact hat10) hf10 HOWN.out hl10
              rw [← HN1.out] at hfin
              have HFIN := Lib.hid (N1.out.trans hfin)
              clear hfin hd10 hat10 hr10 hl10 hf10 C9 c9 hw9
              go_wp2_with fail
              go_ret
              exact ⟨0, _, rfl, HER.out _, HFIN.out⟩
            · have D3 := Lib.hid (fun w' (hF : Fr [] w6.drew w') => (D2.out w' hF).mono fun e w' h => nextF_bad hE0 h)
              have HE0 := Lib.hid hE0
              have dE : (E == 0) = false := by simpa using hE0
              have dE2 : decide (E = 0) = false := decide_eq_false hE0
              clear D2 hE0
              go_wp2_with fail
              go_region_held_law (fun w' => w'.cell? ⟨w1.heap.size, 0, none⟩ = some (.pointer (some ⟨x.b, 0, none⟩)) ∧ w'.cell? ⟨x.b, 4, none⟩ = some (.int .i64 x.ev) ∧ w'.cell? ⟨y.b, 2, none⟩ = some (.slice y.a yl y.c)) (first | exact KP.out _ hF7 | exact KP.out _ (hF7.trans hF8 (by simp)) | go_keep) (first | (go_at_call 77; refine D1.out.mono ?_; rintro e w7 ⟨rfl, hF7⟩) | (go_at_call 29; refine (D3.out _ hF7).mono ?_; rintro e w8 ⟨a8, c8, rfl, hF8⟩))
              all_goals
                have F8 := Lib.hid (((F6.out.drewN 1).trans hF7 (by simp)).trans hF8 (by simp))
                clear hF7 hF8 D1 D3 KP b6 x4 y2
                go_wp2_with fail
                go_ret
                exact ⟨E, T, rfl, .err HM.out HID.out HZ.out HK0.out (by rw [HFE.out]; exact HAC.out) HMY.out HIDQ.out (by rw [HFE2.out]; exact HE.out) HE0.out, .refl HH.out F8.out⟩
end Go.Proofs.Ytclkahggfdnpgaa

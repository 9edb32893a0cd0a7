/- The tree: time goes on. -/
import Derived.Test.YtclkahggfdnpgaaTr8
set_option linter.unusedVariables false
set_option linter.unusedSimpArgs false
namespace Go.Proofs.Ytclkahggfdnpgaa
open Go.RowKit
theorem NextT.trans {w w1 w2 : World} {tb hi : Nat} {T T1 T2 : TreeD} (h : NextT tb hi T T1 w w1) (k : NextT tb hi T1 T2 w1 w2) : NextT tb hi T T2 w w2 :=
  ⟨k.1, h.2.1.trans k.2.1 h.2.2, fun y hy => by
    rcases k.2.2 y hy with h1 | h1
    · exact h.2.2 y h1
    · exact .inr (Nat.le_trans h.2.1.size h1)⟩
theorem NextT.post {w w1 w2 : World} {tb hi : Nat} {T T1 : TreeD} (h : NextT tb hi T T1 w w1) (f : Fr [] w1 w2) : NextT tb hi T T1 w w2 :=
  ⟨h.1.fr f, h.2.1.trans f (by simp), h.2.2⟩
def InsD.tick (x : InsD) : Int × Nat × List MarkD × Int × Int := (x.id, x.tp, x.m.map tickM, x.par, x.ev)
/-- The first j instances are a tick older. -/
structure TickRel (T T' : TreeD) (j : Nat) : Prop where
  eq : T' = { T with L := T'.L }
  len : T'.L.length = T.L.length
  old : ∀ i, i < j → i < T.L.length → (T'.L.getD i default).plain = (T.L.getD i default).tick
  new : ∀ i, j ≤ i → T'.L.getD i default = T.L.getD i default
theorem TickRel.refl (T : TreeD) : TickRel T T 0 := ⟨rfl, rfl, fun i h => absurd h (by omega), fun i h => rfl⟩
theorem setMk_getD {T : TreeD} {j : Nat} {a : Option Addr} {c : Nat} {M : List MarkD} (hj : j < T.L.length) (i : Nat) : (setMk T j a c M).L.getD i default = if i = j then { T.L.getD j default with a := a, c := c, m := M } else T.L.getD i default := by
  show (T.L.set j _).getD i default = _
  rw [List.getD_eq_getElem?_getD]
  by_cases h : i = j
  · subst h
    rw [if_pos rfl, List.getElem?_set_self hj]
    rfl
  · rw [if_neg h, List.getElem?_set_ne (Ne.symm h), List.getD_eq_getElem?_getD]
theorem TickRel.step {T T' : TreeD} {j : Nat} (h : TickRel T T' j) (hj : j < T.L.length) (a : Option Addr) (c : Nat) : TickRel T (setMk T' j a c ((T'.L.getD j default).m.map tickM)) (j + 1) := by
  have hj' : j < T'.L.length := by rw [h.len]; exact hj
  have hn := h.new j (Nat.le_refl _)
  refine ⟨?_, by show (T'.L.set j _).length = _; rw [List.length_set, h.len], fun i hi hl => ?_, fun i hi => ?_⟩
  · have h1 := h.eq
    unfold setMk
    rw [h1]
  · rw [setMk_getD hj']
    by_cases hij : i = j
    · subst hij
      rw [if_pos rfl]
      show (_, _, _, _, _) = _
      rw [hn]
      rfl
    · rw [if_neg hij]
      exact h.old i (by omega) hl
  · rw [setMk_getD hj', if_neg (by omega)]
    exact h.new i (by omega)
theorem slackT_le (Fs : List FlatD) (L : List InsD) : ∀ c : Int, L.foldl (fun n x => min n (slackI (Fs.getD x.tp default).en x.m)) c ≤ c ∧ ∀ x ∈ L, L.foldl (fun n x => min n (slackI (Fs.getD x.tp default).en x.m)) c ≤ slackI (Fs.getD x.tp default).en x.m := by
  induction L with
  | nil => intro c; exact ⟨Int.le_refl _, fun x h => by cases h⟩
  | cons y L ih =>
    intro c
    rw [List.foldl_cons]
    have h1 := ih (min c (slackI (Fs.getD y.tp default).en y.m))
    refine ⟨by omega, fun x hx => ?_⟩
    rcases List.mem_cons.1 hx with rfl | hx
    · omega
    · exact h1.2 x hx
def TickP (tb hi : Nat) (T : TreeD) (w : World) (e : Ending) (w' : World) : Prop :=
  (e = .returned (.int .i64 13) ∧ slackT T.Fs T.L < 1 ∧ Fr [] w w') ∨ (e = .returned (.int .i64 0) ∧ 1 ≤ slackT T.Fs T.L ∧ ∃ T', TickRel T T' T.L.length ∧ NextT tb hi T T' w w')
set_option maxHeartbeats 4000000 in
set_option maxRecDepth 100000 in
theorem ttick_any (tb hi : Nat) (T : TreeD) (w : World) (h : TreeAt w tb hi T) (hg : Good T) (hhi : hi ≤ w.heap.size) :
    Calls Try.prog 45 #[.pointer (some ⟨tb, 0, none⟩)] w (TickP tb hi T w) := by
  have C1 := tslack_any tb hi T w h hg
  have HH := Lib.hid h
  have HG := Lib.hid hg
  obtain ⟨s, hs⟩ : ∃ s, slackT T.Fs T.L = s := ⟨_, rfl⟩
  rw [hs] at C1
  have HS := Lib.hid hs
  clear h hg hs
  go_enter Try.func45, Try.ntmps45
  go_wp2_with fail
  refine C1.mono ?_
  rintro e w1 ⟨rfl, hF⟩
  have F1 := Lib.hid hF
  clear hF C1
  by_cases h1 : s < 1
  · have d1 : decide (s < 1) = true := decide_eq_true h1
    have H1 := Lib.hid h1
    clear h1
    go_wp2_with fail
    go_ret
    exact .inl ⟨rfl, by rw [HS.out]; exact H1.out, F1.out⟩
  · have d1 : decide (s < 1) = false := decide_eq_false h1
    have H1 := Lib.hid (show 1 ≤ s by omega)
    clear h1
    have hA := HH.out.fr F1.out
    have hc2 : w1.cell? ⟨tb, 2, none⟩ = some T.v := hA.head.cell 2
    obtain ⟨a, c, hv, hlc, hp⟩ := hA.vform
    have hfew := hA.few
    rw [hv] at hc2
    obtain ⟨n, hn⟩ : ∃ n, n = T.L.length := ⟨_, rfl⟩
    rw [← hn] at hc2 hlc hp hfew
    have HV := Lib.hid hv
    have HN := Lib.hid hn
    have HP := Lib.hid hp
    have HNX := Lib.hid (NextT.refl HH.out F1.out)
    clear hv hp hn hA
    go_wp2_with fail
    go_loopg [13] n (fun k i wr => ∃ (j : Nat) (T' : TreeD), k = n - j ∧ j ≤ n ∧ i = .int .i64 j ∧ TickRel T T' j ∧ NextT tb hi T T' w wr)
    case atStart => exact ⟨0, T, rfl, by omega, rfl, TickRel.refl T, HNX.out⟩
    case round =>
      obtain ⟨j, T', rfl, hj, rfl, hR, hX⟩ := hrel
      have R := Lib.hid hR
      have X := Lib.hid hX
      clear hR hX
      by_cases hjn : j < n
      · have hd : decide (j < n) = true := by rw [decide_eq_true_iff]; omega
        have hjT : j < T.L.length := by rw [← HN.out]; exact hjn
        have hj' : j < T'.L.length := by rw [R.out.len]; exact hjT
        obtain ⟨a2, c2, hv2, _, hp2⟩ := X.out.1.vform
        obtain ⟨g2, hga2, hgc2, _, _⟩ := hp2 j hj'
        have hvv : T'.v = T.v := by rw [R.out.eq]
        have hFs : T'.Fs = T.Fs := by rw [R.out.eq]
        have hn0 := R.out.new j (Nat.le_refl _)
        have hm := getD_memD T'.L j hj'
        have hm0 := getD_memD T.L j hjT
        rw [hvv, HV.out] at hv2
        have ha2 : a = some ⟨g2, 0, none⟩ := by injection hv2 with e1; rw [e1, hga2]
        subst ha2
        obtain ⟨x, hxe⟩ : ∃ x, T'.L.getD j default = x := ⟨_, rfl⟩
        rw [hxe] at hgc2 hm hn0
        have htp : x.tp < T'.Fs.length := by rw [hFs, hn0]; exact HG.out.tp _ hm0
        have hl : x.m.length ≤ 10 := by rw [hn0]; exact HG.out.len hm0
        have hft : fitsB (T.Fs.getD x.tp default).en x.m = true := by rw [hn0]; exact HG.out.fit _ hm0
        have hsl : 1 ≤ slackI (T.Fs.getD x.tp default).en x.m := by
          have h1 := (slackT_le T.Fs T.L 1048576).2 _ hm0
          have h2 := HS.out
          unfold slackT at h2
          rw [h2] at h1
          rw [hn0]
          exact Int.le_trans H1.out h1
        obtain ⟨f, hf⟩ : ∃ f, T'.Fs.getD x.tp default = f := ⟨_, rfl⟩
        rw [← hFs, hf] at hft hsl
        have hE : tickE f x.m = 0 := tick_go hft (by omega)
        have HXE := Lib.hid hxe
        have HM := Lib.hid hm
        have x2 : wr.cell? ⟨x.b, 2, none⟩ = some (.slice x.a x.m.length x.c) := X.out.1.cellI hm 2
        have D1 := Lib.hid (flat_any tb hi T' x f wr.drew (X.out.1.fr ((Fr.refl [] wr).drew)) hm htp hf)
        have D2 := Lib.hid (fun w' (hF : Fr [] wr.drew w') => (hE ▸ tick_fresh f x.a x.m.length x.c x.m w' ((X.out.1.mks x hm).fr (((Fr.refl [] wr).drew).trans hF (by simp))) (by omega) : Calls Try.prog 31 #[f.val, .slice x.a x.m.length x.c] w' (NextF (x.m.map tickM) 0 w')).mono fun e w' h => nextF_ok0 h)
        have KP := Lib.hid (fun w' (hF : Fr [] wr.drew w') => cell_fr' x2 (((Fr.refl [] wr).drew).trans hF (by simp)))
        generalize hNN : x.m.map tickM = N at D2
        have HNN := Lib.hid hNN
        unfold InsD.ptr at D1 hgc2
        unfold FlatD.val at D1 D2
        generalize x.m.length = ml at x2 D2 KP hl
        have HJ' := Lib.hid hj'
        have HJT := Lib.hid hjT
        have hwsz := X.out.2.1.size
        clear hE hNN hf hft hsl htp hm hm0 hxe hn0 hFs hvv hv2 hp2 hga2 hj' hjT
        go_wp2_with fail
        refine wp_region_lastM (S := (fun w' => w'.cell? ⟨x.b, 2, none⟩ = some (.slice x.a ml x.c))) 14 (by kernel_rfl) (KP.out _ (Fr.refl [] _)) (fun hHeld => ?_)
        refine wpAnyM_take (i := 0) (v := ?_) rfl (by kernel_rfl) (by kernel_rfl) (by kernel_rfl) (by kernel_rfl) (fun _ _ _ h => h) (Or.inl ⟨rfl, ?_⟩) hHeld ?_
        rotate_left
        · (intro w hSw; (try dsimp only at hSw); go_simp; try (with_reducible rfl))
        simp only [List.getElem_toArray, List.getElem_cons_succ, List.getElem_cons_zero, Act.put, List.setIfInBounds_toArray, List.set_cons_zero, List.set_cons_succ]
        refine wpAnyM_take (i := 1) (v := ?_) rfl (by kernel_rfl) (by kernel_rfl) (by kernel_rfl) (by kernel_rfl) (fun _ _ _ h => h) (Or.inl ⟨rfl, ?_⟩) hHeld ?_
        rotate_left
        · (intro w hSw; (try dsimp only at hSw); go_simp; try (with_reducible rfl))
        simp only [List.getElem_toArray, List.getElem_cons_succ, List.getElem_cons_zero, Act.put, List.setIfInBounds_toArray, List.set_cons_zero, List.set_cons_succ]
        refine wpAnyM_take (i := 2) (v := ?_) rfl (by kernel_rfl) (by kernel_rfl) (by kernel_rfl) (by kernel_rfl) (fun _ _ _ h => h) (Or.inl ⟨rfl, ?_⟩) hHeld ?_
        rotate_left
        · (intro w hSw; (try dsimp only at hSw); go_simp; try (with_reducible rfl))
        simp only [List.getElem_toArray, List.getElem_cons_succ, List.getElem_cons_zero, Act.put, List.setIfInBounds_toArray, List.set_cons_zero, List.set_cons_succ]
        refine wpAnyM_take (i := 4) (v := ?_) rfl (by kernel_rfl) (by kernel_rfl) (by kernel_rfl) (by kernel_rfl) (fun _ _ _ h => h) (Or.inl ⟨rfl, ?_⟩) hHeld ?_
        rotate_left
        · (intro w hSw; (try dsimp only at hSw); go_simp; try (with_reducible rfl))
        simp only [List.getElem_toArray, List.getElem_cons_succ, List.getElem_cons_zero, Act.put, List.setIfInBounds_toArray, List.set_cons_zero, List.set_cons_succ]
        refine wpAnyM_take (i := 5) (v := ?_) rfl (by kernel_rfl) (by kernel_rfl) (by kernel_rfl) (by kernel_rfl) (fun _ _ _ h => h) (Or.inl ⟨rfl, ?_⟩) hHeld ?_
        rotate_left
        · (intro w hSw; (try dsimp only at hSw); go_simp; try (with_reducible rfl))
        simp only [List.getElem_toArray, List.getElem_cons_succ, List.getElem_cons_zero, Act.put, List.setIfInBounds_toArray, List.set_cons_zero, List.set_cons_succ]
        refine wpAnyM_take (i := 6) (v := ?_) rfl (by kernel_rfl) (by kernel_rfl) (by kernel_rfl) (by kernel_rfl) (fun _ _ _ h => h) (Or.inl ⟨rfl, ?_⟩) hHeld ?_
        rotate_left
        · (intro w hSw; (try dsimp only at hSw); go_simp; try (with_reducible rfl))
        simp only [List.getElem_toArray, List.getElem_cons_succ, List.getElem_cons_zero, Act.put, List.setIfInBounds_toArray, List.set_cons_zero, List.set_cons_succ]
        refine wpAnyM_take (i := 7) (v := ?_) rfl (by kernel_rfl) (by kernel_rfl) (by kernel_rfl) (by kernel_rfl) (fun _ _ _ h => h) (Or.inl ⟨rfl, ?_⟩) hHeld ?_
        rotate_left
        · (intro w hSw; (try dsimp only at hSw); go_simp; try (with_reducible rfl))
        simp only [List.getElem_toArray, List.getElem_cons_succ, List.getElem_cons_zero, Act.put, List.setIfInBounds_toArray, List.set_cons_zero, List.set_cons_succ]
        refine wpAnyM_ready (rs := [3]) (by kernel_rfl) (by simp) ?_
        refine AllReadyM.cons rfl (fun K hK => ?_) AllReadyM.nil
        simp only [List.getElem_toArray, List.getElem_cons_succ, List.getElem_cons_zero]
        go_simp
        go_wp2_with (first | (go_at_call 77; refine D1.out.mono ?_; rintro e w6 ⟨rfl, hF6⟩))
        refine hK.out _ _ (KP.out _ hF6) (fun hHeld => ?_)
        clear hK K
        try simp only [List.getElem_toArray, List.getElem_cons_succ, List.getElem_cons_zero, Act.put, List.setIfInBounds_toArray, List.set_cons_zero, List.set_cons_succ]
        refine wpAnyM_ready (rs := [8]) (by kernel_rfl) (by simp) ?_
        refine AllReadyM.cons rfl (fun K hK => ?_) AllReadyM.nil
        simp only [List.getElem_toArray, List.getElem_cons_succ, List.getElem_cons_zero]
        go_simp
        go_wp2_with (first | (go_at_call 31; refine (D2.out _ hF6).mono ?_; rintro e w7 ⟨a7, c7, rfl, hM7, hF7, hfr7⟩))
        refine hK.out _ _ (KP.out _ (hF6.trans hF7 (by simp))) (fun hHeld => ?_)
        clear hK K
        try simp only [List.getElem_toArray, List.getElem_cons_succ, List.getElem_cons_zero, Act.put, List.setIfInBounds_toArray, List.set_cons_zero, List.set_cons_succ]
        have F7 := Lib.hid ((((Fr.refl [] wr).drew).trans hF6 (by simp)).trans hF7 (by simp))
        have HFR := Lib.hid (fun g o hg => Nat.le_trans (((Fr.refl [] wr).drew).trans hF6 (by simp)).size (hfr7 g o hg) : ∀ g o, a7 = some ⟨g, o, none⟩ → wr.heap.size ≤ g)
        have M7 := Lib.hid hM7
        clear hM7 hfr7 hF6 hF7 D1 D2 KP x2
        refine wpAnyM_take (i := 9) (v := ?_) rfl (by kernel_rfl) (by kernel_rfl) (by kernel_rfl) (by kernel_rfl) (fun _ _ _ h => h) (Or.inl ⟨rfl, ?_⟩) hHeld ?_
        rotate_left
        · (intro w hSw; (try dsimp only at hSw); go_simp; try (with_reducible rfl))
        simp only [List.getElem_toArray, List.getElem_cons_succ, List.getElem_cons_zero, Act.put, List.setIfInBounds_toArray, List.set_cons_zero, List.set_cons_succ]
        refine wpAnyM_take (i := 10) (v := ?_) rfl (by kernel_rfl) (by kernel_rfl) (by kernel_rfl) (by kernel_rfl) (fun _ _ _ h => h) (Or.inl ⟨rfl, ?_⟩) hHeld ?_
        rotate_left
        · (intro w hSw; (try dsimp only at hSw); go_simp; try (with_reducible rfl))
        simp only [List.getElem_toArray, List.getElem_cons_succ, List.getElem_cons_zero, Act.put, List.setIfInBounds_toArray, List.set_cons_zero, List.set_cons_succ]
        refine wpAnyM_pure (i := 11) (v := ?_) rfl (by kernel_rfl) (by kernel_rfl) (by kernel_rfl) (by kernel_rfl) (fun _ _ _ h => h) (Or.inl ⟨rfl, ?_⟩) hHeld ?_
        rotate_left
        · (intro w hSw; go_simp; try (with_reducible rfl))
        simp only [List.getElem_toArray, List.getElem_cons_succ, List.getElem_cons_zero, Act.put, List.setIfInBounds_toArray, List.set_cons_zero, List.set_cons_succ]
        refine wpAnyM_ready (rs := [12]) (by kernel_rfl) (by simp) ?_
        refine AllReadyM.cons rfl (fun K hK => ?_) AllReadyM.nil
        simp only [List.getElem_toArray, List.getElem_cons_succ, List.getElem_cons_zero]
        go_simp
        refine hK.out _ _ (hHeld) (fun hHeld => ?_)
        clear hK K
        try simp only [List.getElem_toArray, List.getElem_cons_succ, List.getElem_cons_zero, Act.put, List.setIfInBounds_toArray, List.set_cons_zero, List.set_cons_succ]
        refine wpAnyM_take (i := 13) (v := ?_) rfl (by kernel_rfl) (by kernel_rfl) (by kernel_rfl) (by kernel_rfl) (fun _ _ _ h => h) (Or.inl ⟨rfl, ?_⟩) hHeld ?_
        rotate_left
        · (intro w hSw; (try dsimp only at hSw); go_simp; try (with_reducible rfl))
        simp only [List.getElem_toArray, List.getElem_cons_succ, List.getElem_cons_zero, Act.put, List.setIfInBounds_toArray, List.set_cons_zero, List.set_cons_succ]
        have y7 : w7.frozen? ⟨x.b, 2, none⟩ = false := ((X.out.1.ins x HM.out).fr F7.out (by simp)).frozen 2
        refine wpAnyM_ready (rs := [14]) (by kernel_rfl) (by simp) ?_
        refine AllReadyM.end_ rfl (fun K hK => ?_)
        simp only [List.getElem_toArray, List.getElem_cons_succ, List.getElem_cons_zero]
        go_simp
        refine hK.out _ _ ?_
        clear hK K
        try simp only [List.getElem_toArray, List.getElem_cons_succ, List.getElem_cons_zero, Act.put, List.setIfInBounds_toArray, List.set_cons_zero, List.set_cons_succ]
        refine wpAnyM_done (by kernel_rfl) ?_ _
        have HFIN := Lib.hid (show NextT tb hi T (setMk T' j a7 c7 N) w (w7.setCell ⟨x.b, 2, none⟩ (.slice a7 N.length c7)) by
          have := setm_fin X.out.1 HJ'.out F7.out (c := c7) M7.out HFR.out
          rw [HXE.out] at this
          exact X.out.trans this)
        have HTR := Lib.hid (show TickRel T (setMk T' j a7 c7 N) (j + 1) by
          have := R.out.step HJT.out a7 c7
          rwa [HXE.out, HNN.out] at this)
        clear y7 hHeld
        generalize w7.setCell ⟨x.b, 2, none⟩ (.slice a7 N.length c7) = w8 at *
        go_wp2_with fail
        go_roundg (n - (j + 1))
        case measure => omega
        case rel => exact ⟨j + 1, _, rfl, by omega, rfl, HTR.out, HFIN.out⟩
      · have hd : decide (j < n) = false := by rw [decide_eq_false_iff_not]; omega
        have hjn2 : j = n := by omega
        subst hjn2
        go_wp2_with fail
        go_ret
        exact .inr ⟨rfl, by rw [HS.out]; exact H1.out, T', by rw [← HN.out]; exact R.out, X.out⟩
end Go.Proofs.Ytclkahggfdnpgaa


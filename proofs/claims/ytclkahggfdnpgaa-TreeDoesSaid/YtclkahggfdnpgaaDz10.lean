/- Parts of the proof: Tr9, Tr10, Tr11. (Merged by pack.py.) -/
import Derived.Test.YtclkahggfdnpgaaDz9
set_option linter.unusedVariables false
set_option linter.unusedSimpArgs false
namespace Go.Proofs.Ytclkahggfdnpgaa
open Go.RowKit
theorem NextT.trans {w w1 w2 : World} {tb hi : Nat} {T T1 T2 : TreeD} (h : NextT tb hi T T1 w w1) (k : NextT tb hi T1 T2 w1 w2) : NextT tb hi T T2 w w2 :=
  ⟨k.1, h.2.1.trans k.2.1 h.2.2.1, fun y hy => by
    rcases k.2.2.1 y hy with h1 | h1
    · exact h.2.2.1 y h1
    · exact .inr (Nat.le_trans h.2.1.size h1), k.2.2.2.1.trans h.2.2.2.1, fun g hg => by
    rcases k.2.2.2.2 g hg with h1 | h1
    · exact h.2.2.2.2 g h1
    · exact .inr (Nat.le_trans h.2.1.size h1)⟩
theorem NextT.post {w w1 w2 : World} {tb hi : Nat} {T T1 : TreeD} (h : NextT tb hi T T1 w w1) (f : Fr [] w1 w2) : NextT tb hi T T1 w w2 :=
  ⟨h.1.fr f, h.2.1.trans f (by simp), h.2.2⟩
def InsD.tick (x : InsD) : Int × Nat × List MarkD × Int × Int := (x.id, x.tp, x.m.map tickM, x.par, x.ev)
/-- The first j instances are a tick older. -/
structure TickRel (T T' : TreeD) (j : Nat) : Prop where
  eq : T' = { T with L := T'.L }
  len : T'.L.length = T.L.length
  old : ∀ i, i < j → i < T.L.length → (T'.L.getD i default).plain = (T.L.getD i default).tick
  new : ∀ i, j ≤ i → T'.L.getD i default = T.L.getD i default
theorem TickRel.refl (T : TreeD) : TickRel T T 0 := ⟨rfl, rfl, fun i h => absurd h (by omega), fun i h => rfl⟩
theorem setMk_getD {T : TreeD} {j : Nat} {a : Option Addr} {c : Nat} {M : List MarkD} (hj : j < T.L.length) (i : Nat) : (setMk T j a c M).L.getD i default = if i = j then { T.L.getD j default with a := a, c := c, m := M } else T.L.getD i default := by
  show (T.L.set j _).getD i default = _
  rw [List.getD_eq_getElem?_getD]
  by_cases h : i = j
  · subst h
    rw [if_pos rfl, List.getElem?_set_self hj]
    rfl
  · rw [if_neg h, List.getElem?_set_ne (Ne.symm h), List.getD_eq_getElem?_getD]
theorem TickRel.step {T T' : TreeD} {j : Nat} (h : TickRel T T' j) (hj : j < T.L.length) (a : Option Addr) (c : Nat) : TickRel T (setMk T' j a c ((T'.L.getD j default).m.map tickM)) (j + 1) := by
  have hj' : j < T'.L.length := by rw [h.len]; exact hj
  have hn := h.new j (Nat.le_refl _)
  refine ⟨?_, by show (T'.L.set j _).length = _; rw [List.length_set, h.len], fun i hi hl => ?_, fun i hi => ?_⟩
  · have h1 := h.eq
    unfold setMk
    rw [h1]
  · rw [setMk_getD hj']
    by_cases hij : i = j
    · subst hij
      rw [if_pos rfl]
      show (_, _, _, _, _) = _
      rw [hn]
      rfl
    · rw [if_neg hij]
      exact h.old i (by omega) hl
  · rw [setMk_getD hj', if_neg (by omega)]
    exact h.new i (by omega)
theorem slackT_le (Fs : List FlatD) (L : List InsD) : ∀ c : Int, L.foldl (fun n x => min n (slackI (Fs.getD x.tp default).en x.m)) c ≤ c ∧ ∀ x ∈ L, L.foldl (fun n x => min n (slackI (Fs.getD x.tp default).en x.m)) c ≤ slackI (Fs.getD x.tp default).en x.m := by
  induction L with
  | nil => intro c; exact ⟨Int.le_refl _, fun x h => by cases h⟩
  | cons y L ih =>
    intro c
    rw [List.foldl_cons]
    have h1 := ih (min c (slackI (Fs.getD y.tp default).en y.m))
    refine ⟨by omega, fun x hx => ?_⟩
    rcases List.mem_cons.1 hx with rfl | hx
    · omega
    · exact h1.2 x hx
def TickP (tb hi : Nat) (T : TreeD) (w : World) (e : Ending) (w' : World) : Prop :=
  (e = .returned (.int .i64 13) ∧ slackT T.Fs T.L < 1 ∧ Fr [] w w') ∨ (e = .returned (.int .i64 0) ∧ 1 ≤ slackT T.Fs T.L ∧ ∃ T', TickRel T T' T.L.length ∧ NextT tb hi T T' w w')
set_option maxHeartbeats 4000000 in
set_option maxRecDepth 100000 in
theorem ttick_any (tb hi : Nat) (T : TreeD) (w : World) (h : TreeAt w tb hi T) (hg : Good T) (hhi : hi ≤ w.heap.size) :
    Calls Try.prog 45 #[.pointer (some ⟨tb, 0, none⟩)] w (TickP tb hi T w) := by
  have C1 := tslack_any tb hi T w h hg
  have HH := Lib.hid h
  have HG := Lib.hid hg
  obtain ⟨s, hs⟩ : ∃ s, slackT T.Fs T.L = s := ⟨_, rfl⟩
  rw [hs] at C1
  have HS := Lib.hid hs
  clear h hg hs
  go_enter Try.func45, Try.ntmps45
  go_wp2_with fail
  refine C1.mono ?_
  rintro e w1 ⟨rfl, hF⟩
  have F1 := Lib.hid hF
  clear hF C1
  by_cases h1 : s < 1
  · have d1 : decide (s < 1) = true := decide_eq_true h1
    have H1 := Lib.hid h1
    clear h1
    go_wp2_with fail
    go_ret
    exact .inl ⟨rfl, by rw [HS.out]; exact H1.out, F1.out⟩
  · have d1 : decide (s < 1) = false := decide_eq_false h1
    have H1 := Lib.hid (show 1 ≤ s by omega)
    clear h1
    have hA := HH.out.fr F1.out
    have hc2 : w1.cell? ⟨tb, 2, none⟩ = some T.v := hA.head.cell 2
    obtain ⟨a, c, hv, hlc, hp⟩ := hA.vform
    have hfew := hA.few
    rw [hv] at hc2
    obtain ⟨n, hn⟩ : ∃ n, n = T.L.length := ⟨_, rfl⟩
    rw [← hn] at hc2 hlc hp hfew
    have HV := Lib.hid hv
    have HN := Lib.hid hn
    have HP := Lib.hid hp
    have HNX := Lib.hid (NextT.refl HH.out F1.out)
    clear hv hp hn hA
    go_wp2_with fail
    go_loopg [13] n (fun k i wr => ∃ (j : Nat) (T' : TreeD), k = n - j ∧ j ≤ n ∧ i = .int .i64 j ∧ TickRel T T' j ∧ NextT tb hi T T' w wr)
    case atStart => exact ⟨0, T, rfl, by omega, rfl, TickRel.refl T, HNX.out⟩
    case round =>
      obtain ⟨j, T', rfl, hj, rfl, hR, hX⟩ := hrel
      have R := Lib.hid hR
      have X := Lib.hid hX
      clear hR hX
      by_cases hjn : j < n
      · have hd : decide (j < n) = true := by rw [decide_eq_true_iff]; omega
        have hjT : j < T.L.length := by rw [← HN.out]; exact hjn
        have hj' : j < T'.L.length := by rw [R.out.len]; exact hjT
        obtain ⟨a2, c2, hv2, _, hp2⟩ := X.out.1.vform
        obtain ⟨g2, hga2, hgc2, _, _⟩ := hp2 j hj'
        have hvv : T'.v = T.v := by rw [R.out.eq]
        have hFs : T'.Fs = T.Fs := by rw [R.out.eq]
        have hn0 := R.out.new j (Nat.le_refl _)
        have hm := getD_memD T'.L j hj'
        have hm0 := getD_memD T.L j hjT
        rw [hvv, HV.out] at hv2
        have ha2 : a = some ⟨g2, 0, none⟩ := by injection hv2 with e1; rw [e1, hga2]
        subst ha2
        obtain ⟨x, hxe⟩ : ∃ x, T'.L.getD j default = x := ⟨_, rfl⟩
        rw [hxe] at hgc2 hm hn0
        have htp : x.tp < T'.Fs.length := by rw [hFs, hn0]; exact HG.out.tp _ hm0
        have hl : x.m.length ≤ 10 := by rw [hn0]; exact HG.out.len hm0
        have hft : fitsB (T.Fs.getD x.tp default).en x.m = true := by rw [hn0]; exact HG.out.fit _ hm0
        have hsl : 1 ≤ slackI (T.Fs.getD x.tp default).en x.m := by
          have h1 := (slackT_le T.Fs T.L 1048576).2 _ hm0
          have h2 := HS.out
          unfold slackT at h2
          rw [h2] at h1
          rw [hn0]
          exact Int.le_trans H1.out h1
        obtain ⟨f, hf⟩ : ∃ f, T'.Fs.getD x.tp default = f := ⟨_, rfl⟩
        rw [← hFs, hf] at hft hsl
        have hE : tickE f x.m = 0 := tick_go hft (by omega)
        have HXE := Lib.hid hxe
        have HM := Lib.hid hm
        have x2 : wr.cell? ⟨x.b, 2, none⟩ = some (.slice x.a x.m.length x.c) := X.out.1.cellI hm 2
        have D1 := Lib.hid (flat_any tb hi T' x f wr.drew (X.out.1.fr ((Fr.refl [] wr).drew)) hm htp hf)
        have D2 := Lib.hid (fun w' (hF : Fr [] wr.drew w') => (hE ▸ tick_fresh f x.a x.m.length x.c x.m w' ((X.out.1.mks x hm).fr (((Fr.refl [] wr).drew).trans hF (by simp))) (by omega) : Calls Try.prog 31 #[f.val, .slice x.a x.m.length x.c] w' (NextF (x.m.map tickM) 0 w')).mono fun e w' h => nextF_ok0 h)
        have KP := Lib.hid (fun w' (hF : Fr [] wr.drew w') => cell_fr' x2 (((Fr.refl [] wr).drew).trans hF (by simp)))
        generalize hNN : x.m.map tickM = N at D2
        have HNN := Lib.hid hNN
        unfold InsD.ptr at D1 hgc2
        unfold FlatD.val at D1 D2
        generalize x.m.length = ml at x2 D2 KP hl
        have HJ' := Lib.hid hj'
        have HJT := Lib.hid hjT
        have hwsz := X.out.2.1.size
        clear hE hNN hf hft hsl htp hm hm0 hxe hn0 hFs hvv hv2 hp2 hga2 hj' hjT
        go_wp2_with fail
        refine wp_region_lastM (S := (fun w' => w'.cell? ⟨x.b, 2, none⟩ = some (.slice x.a ml x.c))) 14 (by kernel_rfl) (KP.out _ (Fr.refl [] _)) (fun hHeld => ?_)
        refine wpAnyM_take (i := 0) (v := ?_) rfl (by kernel_rfl) (by kernel_rfl) (by kernel_rfl) (by kernel_rfl) (fun _ _ _ h => h) (Or.inl ⟨rfl, ?_⟩) hHeld ?_
        rotate_left
        · (intro w hSw; (try dsimp only at hSw); go_simp; try (with_reducible rfl))
        simp only [List.getElem_toArray, List.getElem_cons_succ, List.getElem_cons_zero, Act.put, List.setIfInBounds_toArray, List.set_cons_zero, List.set_cons_succ]
        refine wpAnyM_take (i := 1) (v := ?_) rfl (by kernel_rfl) (by kernel_rfl) (by kernel_rfl) (by kernel_rfl) (fun _ _ _ h => h) (Or.inl ⟨rfl, ?_⟩) hHeld ?_
        rotate_left
        · (intro w hSw; (try dsimp only at hSw); go_simp; try (with_reducible rfl))
        simp only [List.getElem_toArray, List.getElem_cons_succ, List.getElem_cons_zero, Act.put, List.setIfInBounds_toArray, List.set_cons_zero, List.set_cons_succ]
        refine wpAnyM_take (i := 2) (v := ?_) rfl (by kernel_rfl) (by kernel_rfl) (by kernel_rfl) (by kernel_rfl) (fun _ _ _ h => h) (Or.inl ⟨rfl, ?_⟩) hHeld ?_
        rotate_left
        · (intro w hSw; (try dsimp only at hSw); go_simp; try (with_reducible rfl))
        simp only [List.getElem_toArray, List.getElem_cons_succ, List.getElem_cons_zero, Act.put, List.setIfInBounds_toArray, List.set_cons_zero, List.set_cons_succ]
        refine wpAnyM_take (i := 4) (v := ?_) rfl (by kernel_rfl) (by kernel_rfl) (by kernel_rfl) (by kernel_rfl) (fun _ _ _ h => h) (Or.inl ⟨rfl, ?_⟩) hHeld ?_
        rotate_left
        · (intro w hSw; (try dsimp only at hSw); go_simp; try (with_reducible rfl))
        simp only [List.getElem_toArray, List.getElem_cons_succ, List.getElem_cons_zero, Act.put, List.setIfInBounds_toArray, List.set_cons_zero, List.set_cons_succ]
        refine wpAnyM_take (i := 5) (v := ?_) rfl (by kernel_rfl) (by kernel_rfl) (by kernel_rfl) (by kernel_rfl) (fun _ _ _ h => h) (Or.inl ⟨rfl, ?_⟩) hHeld ?_
        rotate_left
        · (intro w hSw; (try dsimp only at hSw); go_simp; try (with_reducible rfl))
        simp only [List.getElem_toArray, List.getElem_cons_succ, List.getElem_cons_zero, Act.put, List.setIfInBounds_toArray, List.set_cons_zero, List.set_cons_succ]
        refine wpAnyM_take (i := 6) (v := ?_) rfl (by kernel_rfl) (by kernel_rfl) (by kernel_rfl) (by kernel_rfl) (fun _ _ _ h => h) (Or.inl ⟨rfl, ?_⟩) hHeld ?_
        rotate_left
        · (intro w hSw; (try dsimp only at hSw); go_simp; try (with_reducible rfl))
        simp only [List.getElem_toArray, List.getElem_cons_succ, List.getElem_cons_zero, Act.put, List.setIfInBounds_toArray, List.set_cons_zero, List.set_cons_succ]
        refine wpAnyM_take (i := 7) (v := ?_) rfl (by kernel_rfl) (by kernel_rfl) (by kernel_rfl) (by kernel_rfl) (fun _ _ _ h => h) (Or.inl ⟨rfl, ?_⟩) hHeld ?_
        rotate_left
        · (intro w hSw; (try dsimp only at hSw); go_simp; try (with_reducible rfl))
        simp only [List.getElem_toArray, List.getElem_cons_succ, List.getElem_cons_zero, Act.put, List.setIfInBounds_toArray, List.set_cons_zero, List.set_cons_succ]
        refine wpAnyM_ready (rs := [3]) (by kernel_rfl) (by simp) ?_
        refine AllReadyM.cons rfl (fun K hK => ?_) AllReadyM.nil
        simp only [List.getElem_toArray, List.getElem_cons_succ, List.getElem_cons_zero]
        go_simp
        go_wp2_with (first | (go_at_call 77; refine D1.out.mono ?_; rintro e w6 ⟨rfl, hF6⟩))
        refine hK.out _ _ (KP.out _ hF6) (fun hHeld => ?_)
        clear hK K
        try simp only [List.getElem_toArray, List.getElem_cons_succ, List.getElem_cons_zero, Act.put, List.setIfInBounds_toArray, List.set_cons_zero, List.set_cons_succ]
        refine wpAnyM_ready (rs := [8]) (by kernel_rfl) (by simp) ?_
        refine AllReadyM.cons rfl (fun K hK => ?_) AllReadyM.nil
        simp only [List.getElem_toArray, List.getElem_cons_succ, List.getElem_cons_zero]
        go_simp
        go_wp2_with (first | (go_at_call 31; refine (D2.out _ hF6).mono ?_; rintro e w7 ⟨a7, c7, rfl, hM7, hF7, hfr7⟩))
        refine hK.out _ _ (KP.out _ (hF6.trans hF7 (by simp))) (fun hHeld => ?_)
        clear hK K
        try simp only [List.getElem_toArray, List.getElem_cons_succ, List.getElem_cons_zero, Act.put, List.setIfInBounds_toArray, List.set_cons_zero, List.set_cons_succ]
        have F7 := Lib.hid ((((Fr.refl [] wr).drew).trans hF6 (by simp)).trans hF7 (by simp))
        have HFR := Lib.hid (fun g o hg => Nat.le_trans (((Fr.refl [] wr).drew).trans hF6 (by simp)).size (hfr7 g o hg) : ∀ g o, a7 = some ⟨g, o, none⟩ → wr.heap.size ≤ g)
        have M7 := Lib.hid hM7
        clear hM7 hfr7 hF6 hF7 D1 D2 KP x2
        refine wpAnyM_take (i := 9) (v := ?_) rfl (by kernel_rfl) (by kernel_rfl) (by kernel_rfl) (by kernel_rfl) (fun _ _ _ h => h) (Or.inl ⟨rfl, ?_⟩) hHeld ?_
        rotate_left
        · (intro w hSw; (try dsimp only at hSw); go_simp; try (with_reducible rfl))
        simp only [List.getElem_toArray, List.getElem_cons_succ, List.getElem_cons_zero, Act.put, List.setIfInBounds_toArray, List.set_cons_zero, List.set_cons_succ]
        refine wpAnyM_take (i := 10) (v := ?_) rfl (by kernel_rfl) (by kernel_rfl) (by kernel_rfl) (by kernel_rfl) (fun _ _ _ h => h) (Or.inl ⟨rfl, ?_⟩) hHeld ?_
        rotate_left
        · (intro w hSw; (try dsimp only at hSw); go_simp; try (with_reducible rfl))
        simp only [List.getElem_toArray, List.getElem_cons_succ, List.getElem_cons_zero, Act.put, List.setIfInBounds_toArray, List.set_cons_zero, List.set_cons_succ]
        refine wpAnyM_pure (i := 11) (v := ?_) rfl (by kernel_rfl) (by kernel_rfl) (by kernel_rfl) (by kernel_rfl) (fun _ _ _ h => h) (Or.inl ⟨rfl, ?_⟩) hHeld ?_
        rotate_left
        · (intro w hSw; go_simp; try (with_reducible rfl))
        simp only [List.getElem_toArray, List.getElem_cons_succ, List.getElem_cons_zero, Act.put, List.setIfInBounds_toArray, List.set_cons_zero, List.set_cons_succ]
        refine wpAnyM_ready (rs := [12]) (by kernel_rfl) (by simp) ?_
        refine AllReadyM.cons rfl (fun K hK => ?_) AllReadyM.nil
        simp only [List.getElem_toArray, List.getElem_cons_succ, List.getElem_cons_zero]
        go_simp
        refine hK.out _ _ (hHeld) (fun hHeld => ?_)
        clear hK K
        try simp only [List.getElem_toArray, List.getElem_cons_succ, List.getElem_cons_zero, Act.put, List.setIfInBounds_toArray, List.set_cons_zero, List.set_cons_succ]
        refine wpAnyM_take (i := 13) (v := ?_) rfl (by kernel_rfl) (by kernel_rfl) (by kernel_rfl) (by kernel_rfl) (fun _ _ _ h => h) (Or.inl ⟨rfl, ?_⟩) hHeld ?_
        rotate_left
        · (intro w hSw; (try dsimp only at hSw); go_simp; try (with_reducible rfl))
        simp only [List.getElem_toArray, List.getElem_cons_succ, List.getElem_cons_zero, Act.put, List.setIfInBounds_toArray, List.set_cons_zero, List.set_cons_succ]
        have y7 : w7.frozen? ⟨x.b, 2, none⟩ = false := ((X.out.1.ins x HM.out).fr F7.out (by simp)).frozen 2
        refine wpAnyM_ready (rs := [14]) (by kernel_rfl) (by simp) ?_
        refine AllReadyM.end_ rfl (fun K hK => ?_)
        simp only [List.getElem_toArray, List.getElem_cons_succ, List.getElem_cons_zero]
        go_simp
        refine hK.out _ _ ?_
        clear hK K
        try simp only [List.getElem_toArray, List.getElem_cons_succ, List.getElem_cons_zero, Act.put, List.setIfInBounds_toArray, List.set_cons_zero, List.set_cons_succ]
        refine wpAnyM_done (by kernel_rfl) ?_ _
        have HFIN := Lib.hid (show NextT tb hi T (setMk T' j a7 c7 N) w (w7.setCell ⟨x.b, 2, none⟩ (.slice a7 N.length c7)) by
          have := setm_fin X.out.1 HJ'.out F7.out (c := c7) M7.out HFR.out
          rw [HXE.out] at this
          exact X.out.trans this)
        have HTR := Lib.hid (show TickRel T (setMk T' j a7 c7 N) (j + 1) by
          have := R.out.step HJT.out a7 c7
          rwa [HXE.out, HNN.out] at this)
        clear y7 hHeld
        generalize w7.setCell ⟨x.b, 2, none⟩ (.slice a7 N.length c7) = w8 at *
        go_wp2_with fail
        go_roundg (n - (j + 1))
        case measure => omega
        case rel => exact ⟨j + 1, _, rfl, by omega, rfl, HTR.out, HFIN.out⟩
      · have hd : decide (j < n) = false := by rw [decide_eq_false_iff_not]; omega
        have hjn2 : j = n := by omega
        subst hjn2
        go_wp2_with fail
        go_ret
        exact .inr ⟨rfl, by rw [HS.out]; exact H1.out, T', by rw [← HN.out]; exact R.out, X.out⟩
end Go.Proofs.Ytclkahggfdnpgaa
set_option linter.unusedVariables false
set_option linter.unusedSimpArgs false
namespace Go.Proofs.Ytclkahggfdnpgaa
open Go.RowKit
theorem info130 : (Try.prog.info? 130).map (·.size) = some 5 := by kernel_rfl
theorem eql_ins {w : World} {y x : Nat} {cy cx : List Value} (hy : Row w y cy 130) (hx : Row w x cx 130) : (binOp .eql 127 (.pointer (some ⟨y, 0, none⟩)) (.pointer (some ⟨x, 0, none⟩))).run Try.prog w = .ok (.bool (decide (y = x))) w := by
  obtain ⟨i, hi, hs⟩ := Option.map_eq_some_iff.1 info130
  by_cases h : y = x
  · subst h
    rw [decide_eq_true rfl]
    exact run_eql_ptr_same w _ Try.underlying127 hi
  · rw [decide_eq_false h]
    exact run_eql_ptr_other w Try.underlying127 hi (by rw [hs]; decide) (by intro e; cases e; exact h rfl) hy hx
theorem endf_any (bx xb yb : Nat) (cy cx : List Value) (w : World) (hb : w.cell? ⟨bx, 0, none⟩ = some (.pointer (some ⟨xb, 0, none⟩))) (hy : Row w yb cy 130) (hx : Row w xb cx 130) :
    Calls Try.prog 82 #[.pointer (some ⟨yb, 0, none⟩), .pointer (some ⟨bx, 0, none⟩)] w fun e w' => e = .returned (.bool (decide (yb = xb))) ∧ Fr [] w w' := by
  have h1 := eql_ins hy hx
  clear hy hx
  generalize decide (yb = xb) = q at h1 ⊢
  go_enter Try.func82, Try.ntmps82
  go_wp2_with fail
  go_ret
  exact ⟨rfl, Fr.refl _ _⟩
/-- Pointers in a row. -/
structure PtrsAt (w : World) (g n : Nat) (sh : Nat → InsD) (C : List Value) : Prop where
  row : Row w g C 127
  len : n ≤ C.length
  at_ : ∀ m, m < n → C[m]? = some (sh m).ptr
  ins : ∀ m, m < n → Row w (sh m).b (sh m).cells 130
  sep : ∀ m, m < n → (sh m).b ≠ g
theorem index_del (g n c j bx xb : Nat) (sh : Nat → InsD) (C : List Value) (w : World) (h : PtrsAt w g n sh C) (hb : w.cell? ⟨bx, 0, none⟩ = some (.pointer (some ⟨xb, 0, none⟩))) (hj : j < n) (hje : (sh j).b = xb) (hne : ∀ m, m < n → m ≠ j → (sh m).b ≠ xb) (hn : n ≤ 1000) :
    Calls Try.prog 87 #[.slice (some ⟨g, 0, none⟩) n c, .func (.func 82) #[] #[.pointer (some ⟨bx, 0, none⟩)]] w fun e w' => e = .returned (.int .i64 j) ∧ Fr [] w w' := by
  have HH := Lib.hid h
  have HB := Lib.hid hb
  have HJE := Lib.hid hje
  have HNE := Lib.hid hne
  clear h hb hje hne
  go_enter Try.func87, Try.ntmps87
  go_wp2_with fail
  go_loopg [8] n (fun k i wr => ∃ q : Nat, k = n - q ∧ q ≤ j ∧ i = .int .i64 q ∧ Fr [] w wr)
  case atStart => exact ⟨0, rfl, by omega, rfl, Fr.refl _ _⟩
  case round =>
    obtain ⟨q, rfl, hq, rfl, hF⟩ := hrel
    have F := Lib.hid hF
    clear hF
    have hqn : q < n := by omega
    have hd : decide (q < n) = true := decide_eq_true hqn
    have hc : wr.cell? ⟨g, q, none⟩ = some (sh q).ptr := cell_fr' ((HH.out.row.cell q).trans (HH.out.at_ q hqn)) F.out
    have hb2 : wr.cell? ⟨bx, 0, none⟩ = some (.pointer (some ⟨xb, 0, none⟩)) := cell_fr' HB.out F.out
    have C1 := endf_any bx xb (sh q).b _ _ wr hb2 ((HH.out.ins q hqn).fr F.out (by simp)) (by have := (HH.out.ins j hj).fr F.out (by simp); rw [HJE.out] at this; exact this)
    obtain ⟨x, hx⟩ : ∃ x, sh q = x := ⟨_, rfl⟩
    rw [hx] at hc C1
    unfold InsD.ptr at hc
    have HX := Lib.hid hx
    clear hb2 hx
    go_wp2_with fail
    refine C1.mono ?_
    rintro e w2 ⟨rfl, hF2⟩
    have F2 := Lib.hid (F.out.trans hF2 (by simp))
    clear hF2 C1
    by_cases hx : x.b = xb
    · rw [decide_eq_true hx]
      have HQ := Lib.hid (show q = j by
        rcases Nat.lt_or_ge q j with hlt | hge
        · exact absurd (by rw [HX.out]; exact hx) (HNE.out q hqn (by omega))
        · omega)
      clear hx
      go_wp2_with fail
      go_ret
      exact ⟨by rw [← HQ.out]; rfl, F2.out⟩
    · rw [decide_eq_false hx]
      have HQ := Lib.hid (show q + 1 ≤ j by
        rcases Nat.lt_or_ge q j with hlt | hge
        · omega
        · have e : q = j := by omega
          exact absurd (by rw [← HX.out, e]; exact HJE.out) hx)
      clear hx
      go_wp2_with fail
      go_roundg (n - (q + 1))
      case measure => omega
      case rel => exact ⟨q + 1, rfl, HQ.out, rfl, F2.out⟩
/-- Behind the move of those up to k. -/
def shiftI (sh : Nat → InsD) (j k m : Nat) : InsD := if j ≤ m ∧ m + 1 < k then sh (m + 1) else sh m
theorem PtrsAt.shift {w : World} {g n j k : Nat} {sh : Nat → InsD} {C : List Value} (hk : k ≤ n) (hi : ∀ m, m < n → Row w (sh m).b (sh m).cells 130) (hs : ∀ m, m < n → (sh m).b ≠ g) (hr : Row w g C 127) (hl : n ≤ C.length) (ha : ∀ m, m < n → C[m]? = some (shiftI sh j k m).ptr) : PtrsAt w g n (shiftI sh j k) C :=
  ⟨hr, hl, ha, fun m hm => by unfold shiftI; split; exact hi _ (by omega); exact hi _ hm, fun m hm => by unfold shiftI; split; exact hs _ (by omega); exact hs _ hm⟩
def DelP (g n c j : Nat) (sh : Nat → InsD) (C : List Value) (w : World) (e : Ending) (w' : World) : Prop :=
  e = .returned (.slice (some ⟨g, 0, none⟩) (n - 1) c) ∧ ∃ C', C'.length = C.length ∧ Row w' g C' 127 ∧ (∀ m, m < n - 1 → C'[m]? = some (shiftI sh j n m).ptr) ∧ Fr [g] w w'
theorem zero127 (w : World) : (zeroValue 127).run Try.prog w = .ok (.pointer none) w := by kernel_rfl
set_option maxHeartbeats 1000000 in
theorem delete_any (g n c j bx xb : Nat) (sh : Nat → InsD) (C : List Value) (w : World) (h : PtrsAt w g n sh C) (hb : w.cell? ⟨bx, 0, none⟩ = some (.pointer (some ⟨xb, 0, none⟩))) (hbg : bx ≠ g) (hj : j < n) (hje : (sh j).b = xb) (hne : ∀ m, m < n → m ≠ j → (sh m).b ≠ xb) (hn : n ≤ 1000) (hnc : n ≤ c) :
    Calls Try.prog 81 #[.slice (some ⟨g, 0, none⟩) n c, .func (.func 82) #[] #[.pointer (some ⟨bx, 0, none⟩)]] w (DelP g n c j sh C w) := by
  have C1 := index_del g n c j bx xb sh C w h hb hj hje hne hn
  have HH := Lib.hid h
  have HB := Lib.hid hb
  have HJE := Lib.hid hje
  have HNE := Lib.hid hne
  have dj : ((j : Int) == -1) = false := by rw [beq_eq_false_iff_ne]; omega
  clear h hb hje hne
  go_enter Try.func81, Try.ntmps81
  go_wp2_with fail
  refine C1.mono ?_
  rintro e w1 ⟨rfl, hF⟩
  have F1 := Lib.hid hF
  clear hF C1
  go_wp2_with fail
  go_loopg [5, 6] (n - (j + 1)) (fun q iv kv wr => ∃ (k p : Nat) (C' : List Value), q = n - k ∧ p + 1 = k ∧ j ≤ p ∧ k ≤ n ∧ iv = .int .i64 (p : Int) ∧ kv = .int .i64 ((p : Int) + 1) ∧ C'.length = C.length ∧ PtrsAt wr g n (shiftI sh j k) C' ∧ Fr [g] w wr)
  case atStart =>
    refine ⟨j + 1, j, C, rfl, rfl, by omega, by omega, rfl, rfl, rfl, .shift (by omega) (fun m hm => (HH.out.ins m hm).fr F1.out (by simp)) HH.out.sep (HH.out.row.fr F1.out (by simp)) HH.out.len (fun m hm => ?_), F1.out.mono (by simp)⟩
    rw [HH.out.at_ m hm]
    unfold shiftI
    rw [if_neg (by omega)]
  case round =>
    obtain ⟨k, p, C', rfl, hpk, hjp, hkn, rfl, rfl, hCl, hP, hF⟩ := hrel
    have P := Lib.hid hP
    have F := Lib.hid hF
    have CL := Lib.hid hCl
    clear hP hF hCl
    by_cases hlt : p + 1 < n
    · have hd : decide ((p : Int) + 1 < n) = true := decide_eq_true (by omega)
      obtain rfl : k = p + 1 := by omega
      have hsh : shiftI sh j (p + 1) (p + 1) = sh (p + 1) := by unfold shiftI; rw [if_neg (by omega)]
      have hc : wr.cell? ⟨g, p + 1, none⟩ = some (sh (p + 1)).ptr := (P.out.row.cell (p + 1)).trans (by rw [P.out.at_ (p + 1) hlt, hsh])
      have hcp : wr.cell? ⟨g, p, none⟩ = some (shiftI sh j (p + 1) p).ptr := (P.out.row.cell p).trans (P.out.at_ p (by omega))
      have hb2 : wr.cell? ⟨bx, 0, none⟩ = some (.pointer (some ⟨xb, 0, none⟩)) := by
        rw [World.cell?_of_block (F.out.block bx (World.block_lt_of_cell? w _ HB.out) (by simp; exact hbg))]; exact HB.out
      have C2 := endf_any bx xb (sh (p + 1)).b _ _ wr hb2 ((HH.out.ins (p + 1) hlt).fr F.out (by simp; exact HH.out.sep _ hlt)) (by have := (HH.out.ins j hj).fr F.out (by simp; exact HH.out.sep j hj); rw [HJE.out] at this; exact this)
      rw [decide_eq_false (HNE.out (p + 1) hlt (by omega))] at C2
      unfold InsD.ptr at hc hcp
      have hidx : ((p : Int) + 1).toNat = p + 1 := by omega
      clear hsh hb2
      go_wp2_with fail
      refine C2.mono ?_
      rintro e w2 ⟨rfl, hF2⟩
      have F2 := Lib.hid (F.out.trans hF2 (by simp))
      have hcp2 : w2.cell? ⟨g, p, none⟩ = some (.pointer (some ⟨(shiftI sh j (p + 1) p).b, 0, none⟩)) := cell_fr' hcp hF2
      have hR2 := P.out.row.fr hF2 (by simp)
      have hfz : w2.frozen? ⟨g, p, none⟩ = false := hR2.frozen p
      have R2 := Lib.hid hR2
      clear hF2 C2 hc hcp hR2
      go_wp2_with fail
      go_roundg (n - (p + 2))
      case measure => omega
      case rel =>
        refine ⟨p + 2, p + 1, C'.set p (.pointer (some ⟨(sh (p + 1)).b, 0, none⟩)), rfl, rfl, by omega, by omega, by simp, by simp, by rw [List.length_set]; exact CL.out, .shift (by omega) (fun m hm => ?_) HH.out.sep ((R2.out.setCell p _)) (by rw [List.length_set]; exact P.out.len) (fun m hm => ?_), F2.out.setCell (.inl (by simp)) _⟩
        · exact ((HH.out.ins m hm).fr F2.out (by simp; exact HH.out.sep m hm)).setCell_other _ _ (HH.out.sep m hm)
        · by_cases hmp : m = p
          · subst hmp
            rw [List.getElem?_set_self (by have := P.out.len; omega)]
            unfold shiftI
            rw [if_pos (by omega)]
            rfl
          · rw [List.getElem?_set_ne (Ne.symm hmp), P.out.at_ m hm]
            unfold shiftI
            by_cases hc1 : j ≤ m ∧ m + 1 < p + 1
            · rw [if_pos hc1, if_pos (by omega)]
            · rw [if_neg hc1, if_neg (by omega)]
    · have hd : decide ((p : Int) + 1 < n) = false := decide_eq_false (by omega)
      have hpn : p = n - 1 := by omega
      have hn0 : n - 1 + 1 = n := by omega
      have hkn2 : k = n := by omega
      subst hkn2
      have hR := P.out.row
      have hcl : ∀ ty, (Builtin.clear_ #[118] ty #[.slice (some ⟨g, p, none⟩) (k - p) (c - p)]).run Try.prog wr = .ok (.tuple #[]) (wr.setCells g p (List.replicate (k - p) (.pointer none))) := fun ty =>
        Lib.run_clear_slice wr 118 127 ty _ Try.underlying118 zero127 rfl rfl g p _ _ (by omega) (fun m hm => by rw [hR.cell, P.out.at_ _ (by omega)]; rfl) (fun m hm => hR.frozen _)
      have e1 : k - p = 1 := by omega
      have hp1 : p ≤ k := by omega
      have hpc : p ≤ c := by omega
      have E1 := Lib.hid e1
      have PN := Lib.hid hpn
      have hcl2 : ∀ ty, (Builtin.clear_ #[118] ty #[.slice (if c = p then some ⟨g, 0, none⟩ else some ⟨g, p, none⟩) (k - p) (c - p)]).run Try.prog wr = .ok (.tuple #[]) (wr.setCells g p (List.replicate (k - p) (.pointer none))) := fun ty => by rw [if_neg (by omega)]; exact hcl ty
      have CLR := Lib.hid hcl2
      clear hR hcl hcl2 e1 hpn hn0 hpk hkn
      go_wp2_with (simp only [CLR.out])
      all_goals
        go_ret
        have hw : wr.setCells g p (List.replicate (k - p) (.pointer none)) = wr.setCell ⟨g, p, none⟩ (.pointer none) := by rw [E1.out]; rfl
        rw [hw]
        refine ⟨?_, C'.set p (.pointer none), by rw [List.length_set]; exact CL.out, P.out.row.setCell p _, fun m hm => ?_, F.out.setCell (.inl (by simp)) _⟩
        · simp [PN.out]
        · rw [List.getElem?_set_ne (by have := PN.out; omega)]
          exact P.out.at_ m (by omega)
end Go.Proofs.Ytclkahggfdnpgaa
set_option linter.unusedVariables false
set_option linter.unusedSimpArgs false
namespace Go.Proofs.Ytclkahggfdnpgaa
open Go.RowKit
theorem getD_eraseIdx (L : List InsD) (j m : Nat) (h : m + 1 < L.length) : (L.eraseIdx j)[m]? = some (if j ≤ m then L.getD (m + 1) default else L.getD m default) := by
  rw [List.getElem?_eraseIdx]
  by_cases hm : m < j
  · rw [if_pos hm, if_neg (by omega), getD_at L m (by omega)]
  · rw [if_neg hm, if_pos (by omega), getD_at L (m + 1) h]
theorem TreeAt.ptrs {w : World} {tb hi : Nat} {T : TreeD} (h : TreeAt w tb hi T) (h0 : 0 < T.L.length) : ∃ g c C, T.v = .slice (some ⟨g, 0, none⟩) T.L.length c ∧ hi ≤ g ∧ T.L.length ≤ c ∧ PtrsAt w g T.L.length (fun m => T.L.getD m default) C ∧
    ∀ (w' : World) (C' : List Value) (L' : List InsD), Row w' g C' 127 → C'.length = C.length → L'.length ≤ T.L.length → (∀ m, m < L'.length → C'[m]? = some (L'.getD m default).ptr) → w'.ownsRow hi 127 1 (.slice (some ⟨g, 0, none⟩) L'.length c) L'.length (L'.map InsD.ptr) := by
  rcases h.row.2 with ⟨_, h1⟩ | ⟨g, cap, cur, hv, hb, hg, hn, hcm, hcs, ht⟩
  · omega
  · have hrow : Row w g cur.toList 127 := by unfold Row; rw [hg]
    have hcl : T.L.length ≤ cur.size := by omega
    refine ⟨g, cap, cur.toList, hv, hb, hn, ⟨hrow, by simpa using hcl, fun m hm => ?_, fun m hm => h.ins _ (getD_memD T.L m hm), fun m hm he => ?_⟩, ?_⟩
    · have h2 : (cur.toList.take (T.L.length * 1))[m]? = (T.L.map InsD.ptr)[m]? := by rw [ht]
      rw [List.getElem?_take_of_lt (by omega), List.getElem?_map, getD_at T.L m hm] at h2
      exact h2
    · exact h.sep _ (getD_memD T.L m hm) (by rw [hv, he]; rfl)
    · intro w' C' L' hr hl hle hat
      refine ⟨by simp, .inr ⟨g, cap, C'.toArray, rfl, hb, hr, by omega, hcm, ?_, ?_⟩⟩
      · simp only [List.size_toArray]
        rw [hl]
        simpa using hcs
      · apply List.ext_getElem?
        intro m
        by_cases hm : m < L'.length
        · rw [List.getElem?_take_of_lt (by omega), List.getElem?_map, getD_at L' m hm]
          exact hat m hm
        · rw [List.getElem?_eq_none (by simp; omega), List.getElem?_eq_none (by simp; omega)]
theorem del_fin {w w8 : World} {tb hi : Nat} {T : TreeD} (h : TreeAt w tb hi T) {j g c : Nat} {C C' : List Value} (hj : j < T.L.length) (hv : T.v = .slice (some ⟨g, 0, none⟩) T.L.length c) (hg : hi ≤ g)
    (hr : Row w8 g C' 127) (hat : ∀ m, m < T.L.length - 1 → C'[m]? = some (shiftI (fun m => T.L.getD m default) j T.L.length m).ptr) (f : Fr [g] w w8)
    (hown : ∀ (w' : World) (C' : List Value) (L' : List InsD), Row w' g C' 127 → C'.length = C.length → L'.length ≤ T.L.length → (∀ m, m < L'.length → C'[m]? = some (L'.getD m default).ptr) → w'.ownsRow hi 127 1 (.slice (some ⟨g, 0, none⟩) L'.length c) L'.length (L'.map InsD.ptr)) (hl : C'.length = C.length) :
    NextT tb hi T { T with v := .slice (some ⟨g, 0, none⟩) (T.L.length - 1) c, L := T.L.eraseIdx j } w (w8.setCell ⟨tb, 2, none⟩ (.slice (some ⟨g, 0, none⟩) (T.L.length - 1) c)) := by
  have hle : (T.L.eraseIdx j).length = T.L.length - 1 := List.length_eraseIdx_of_lt hj
  have htbh := h.tbh
  have fS : Fr [tb] w8 (w8.setCell ⟨tb, 2, none⟩ (.slice (some ⟨g, 0, none⟩) (T.L.length - 1) c)) := (Fr.refl _ w8).setCell (.inl (by simp)) _
  have f9 : Fr [tb, g] w (w8.setCell ⟨tb, 2, none⟩ (.slice (some ⟨g, 0, none⟩) (T.L.length - 1) c)) := (f.mono (fun y hy => .inl (by simp at hy; simp [hy]))).trans fS (fun y hy => .inl (by simp at hy; simp [hy]))
  have hvo : T.v.ownBlock = some g := by rw [hv]; rfl
  have fB : Fr (T.blocks tb) w (w8.setCell ⟨tb, 2, none⟩ (.slice (some ⟨g, 0, none⟩) (T.L.length - 1) c)) := f9.mono (fun y hy => .inl (by
    unfold TreeD.blocks
    rw [hvo]
    simp at hy ⊢
    rcases hy with rfl | rfl
    · exact .inl rfl
    · exact .inr (.inl rfl)))
  have hsub : ∀ y ∈ T.L.eraseIdx j, y ∈ T.L := fun y hy => (List.eraseIdx_sublist T.L j).subset hy
  refine ⟨⟨?_, h.tmT fB, h.mpT fB, h.cmt, h.tbh, ?_, ?_, ?_, ?_, ?_, ?_, ?_, ?_⟩, fB, ?_, rfl, ?_⟩
  · exact ((h.head.fr f (by simp; omega)).setCell 2 _)
  · show World.ownsRow _ hi 127 1 (.slice (some ⟨g, 0, none⟩) (T.L.length - 1) c) (T.L.eraseIdx j).length ((T.L.eraseIdx j).map InsD.ptr)
    have := hown (w8.setCell ⟨tb, 2, none⟩ (.slice (some ⟨g, 0, none⟩) (T.L.length - 1) c)) C' (T.L.eraseIdx j) (hr.setCell_other _ _ (by show g ≠ tb; omega)) hl (by omega) (fun m hm => by
      rw [hat m (by omega)]
      congr 2
      rw [List.getD_eq_getElem?_getD, getD_eraseIdx T.L j m (by omega)]
      unfold shiftI
      by_cases hjm : j ≤ m
      · rw [if_pos (by omega), if_pos hjm]; rfl
      · rw [if_neg (by omega), if_neg hjm]; rfl)
    rw [hle] at this ⊢
    exact this
  · intro y hy
    have hyL := hsub y hy
    refine (h.ins y hyL).fr f9 (fun hb => ?_)
    have hlow := h.low y hyL
    simp at hb
    rcases hb with hb | hb
    · omega
    · exact h.sep y hyL (by rw [hvo, hb])
  · intro y hy
    exact h.mkT fB (hsub y hy)
  · intro y hy h0 g' o hg' hv'
    exact h.apart y (hsub y hy) h0 g' o hg' (by rw [hvo]; exact hv')
  · intro y hy
    exact h.low y (hsub y hy)
  · show ((T.L.eraseIdx j).map (·.b)).Nodup
    exact (((List.eraseIdx_sublist T.L j).map (·.b))).nodup h.nd
  · intro y hy hv'
    exact h.sep y (hsub y hy) (by rw [hvo]; exact hv')
  · show (T.L.eraseIdx j).length ≤ 40
    have := h.few
    omega
  · intro y hy
    refine .inl ?_
    unfold TreeD.blocks at hy ⊢
    rw [hvo]
    simp only [List.mem_cons, List.mem_append, Option.mem_toList] at hy ⊢
    rcases hy with rfl | hy | hy
    · exact .inl rfl
    · exact .inr (.inl hy)
    · obtain ⟨z, hz, rfl⟩ := List.mem_map.1 hy
      exact .inr (.inr (List.mem_map.2 ⟨z, hsub z hz, rfl⟩))
  · rintro g' ⟨y, hy, o, h0, hya⟩
    exact .inl ⟨y, hsub y hy, o, h0, hya⟩
/-- What End answers, and the tree behind it. -/
inductive EndR (T : TreeD) (id : Int) : Int → TreeD → Prop where
  | none : (∀ x ∈ T.L, x.id ≠ id) → EndR T id 10 T
  | root {x : InsD} : x ∈ T.L → x.id = id → id = 0 → EndR T id 1 T
  | hold {x : InsD} : x ∈ T.L → x.id = id → id ≠ 0 → 0 < (T.L.filter (isKid id (-1))).length → EndR T id 17 T
  | off {x : InsD} : x ∈ T.L → x.id = id → id ≠ 0 → (T.L.filter (isKid id (-1))).length = 0 → accB (T.Fs.getD x.tp default).en x.m = false → EndR T id 11 T
  | err {x y : InsD} {E : Int} : x ∈ T.L → x.id = id → id ≠ 0 → (T.L.filter (isKid id (-1))).length = 0 → accB (T.Fs.getD x.tp default).en x.m = true → y ∈ T.L → y.id = x.par → doE (T.Fs.getD y.tp default) y.m x.ev = E → E ≠ 0 → EndR T id E T
  | done {j q : Nat} (a : Option Addr) (c : Nat) (v : Value) : j < T.L.length → (T.L.getD j default).id = id → id ≠ 0 → (T.L.filter (isKid id (-1))).length = 0 → accB (T.Fs.getD (T.L.getD j default).tp default).en (T.L.getD j default).m = true →
      q < T.L.length → (T.L.getD q default).id = (T.L.getD j default).par → doE (T.Fs.getD (T.L.getD q default).tp default) (T.L.getD q default).m (T.L.getD j default).ev = 0 →
      EndR T id 0 { setMk T q a c (doM (T.Fs.getD (T.L.getD q default).tp default) (T.L.getD q default).m (T.L.getD j default).ev.toNat) with v := v, L := (setMk T q a c (doM (T.Fs.getD (T.L.getD q default).tp default) (T.L.getD q default).m (T.L.getD j default).ev.toNat)).L.eraseIdx j }
def EndP (tb hi : Nat) (T : TreeD) (id : Int) (w : World) (e : Ending) (w' : World) : Prop := ∃ E T', e = .returned (.int .i64 E) ∧ EndR T id E T' ∧ NextT tb hi T T' w w'
end Go.Proofs.Ytclkahggfdnpgaa

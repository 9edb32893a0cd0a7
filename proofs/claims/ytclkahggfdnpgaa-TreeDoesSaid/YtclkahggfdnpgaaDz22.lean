/- Parts of the proof: Rt5, Rt6. (Merged by pack.py.) -/
import Derived.Test.YtclkahggfdnpgaaDz21
import Derived.Test.YtclkahggfdnpgaaDz8
set_option linter.unusedVariables false
set_option linter.unusedSimpArgs false
namespace Go.Proofs.Ytclkahggfdnpgaa
open Go.RowKit
theorem own_setCell {w : World} {base e k g c n : Nat} {xs : List Value} (h : w.ownsRow base e k (.slice (some ⟨g, 0, none⟩) n c) n xs) {i : Nat} (hi : i < n * k) (u : Value) : (w.setCell ⟨g, i, none⟩ u).ownsRow base e k (.slice (some ⟨g, 0, none⟩) n c) n (xs.set i u) := by
  refine ⟨by rw [List.length_set]; exact h.1, ?_⟩
  rcases h.2 with ⟨hv, _⟩ | ⟨g', cap, cur, hv, hb, hg, hn, hcm, hcs, ht⟩
  · cases hv
  · cases hv
    refine .inr ⟨g, c, cur.setIfInBounds i u, rfl, hb, ?_, hn, hcm, by simpa using hcs, ?_⟩
    · rw [heap_setCell_same w g i _ _ u hg]
    · rw [Array.toList_setIfInBounds, List.take_set, ht]
theorem flatC_congr {C C' : Nat → List Value} : ∀ n, (∀ i, i < n → C' i = C i) → flatC C' n = flatC C n := by
  intro n
  induction n with
  | zero => intro _; rfl
  | succ n ih =>
    intro h
    show flatC C' n ++ C' n = flatC C n ++ C n
    rw [ih (fun i hi => h i (by omega)), h n (by omega)]
theorem flatC_set {C C' : Nat → List Value} {k j r : Nat} {v : Value} (hk : ∀ i, (C i).length = k) (hr : r < k) (hj : C' j = (C j).set r v) (ho : ∀ i, i ≠ j → C' i = C i) : ∀ n, j < n → flatC C' n = (flatC C n).set (j * k + r) v := by
  intro n
  induction n with
  | zero => intro h; omega
  | succ n ih =>
    intro h
    show flatC C' n ++ C' n = (flatC C n ++ C n).set (j * k + r) v
    have hl : (flatC C n).length = n * k := flatC_length hk n
    by_cases hjn : j = n
    · subst hjn
      rw [flatC_congr j (fun i hi => ho i (by omega)), hj, List.set_append_right _ _ (by omega), hl, show j * k + r - j * k = r by omega]
    · have h2 : j * k + k ≤ n * k := by
        rw [← Nat.succ_mul]
        exact Nat.mul_le_mul_right k (by omega)
      rw [ih (by omega), ho n (fun h => hjn h.symm), List.set_append_left _ _ (by omega)]
def RefD.setN (R : RefD) (j : Nat) (x : RND) : RefD := { R with L := R.L.set j x }
theorem getD_setN {L : List RND} {j : Nat} (hj : j < L.length) (x : RND) (i : Nat) : (L.set j x).getD i default = if i = j then x else L.getD i default := by
  rw [List.getD_eq_getElem?_getD]
  by_cases h : i = j
  · subst h
    rw [if_pos rfl, List.getElem?_set_self hj]
    rfl
  · rw [if_neg h, List.getElem?_set_ne (Ne.symm h), List.getD_eq_getElem?_getD]
/-- One cell of one node is stored into. -/
theorem setn_fin {w w1 : World} {rb : Nat} {R : RefD} (h : RefAt w rb R) {j : Nat} (hj : j < R.L.length) (f : Fr [] w w1) {g c r : Nat} (hv : R.lv = .slice (some ⟨g, 0, none⟩) R.L.length c) {x : RND} {v : Value} (hr : r < 5)
    (hx : x.cells = (R.L.getD j default).cells.set r v) (hm : MarksAt w1 x.a x.m.length x.m) (ha : ∀ q, Holds x.a x.m.length q → Holds (R.L.getD j default).a (R.L.getD j default).m.length q ∨ w.heap.size ≤ q) :
    NextR rb R (R.setN j x) w (w1.setCell ⟨g, j * 5 + r, none⟩ v) := by
  have hob : R.lv.ownBlock = some g := by rw [hv]; rfl
  have hgb : g ∈ R.blocks rb := by unfold RefD.blocks; rw [hob]; simp
  have hgl := h.block_lt hgb
  have fS : Fr [g] w1 (w1.setCell ⟨g, j * 5 + r, none⟩ v) := (Fr.refl _ w1).setCell (.inl (by simp)) _
  have f8 : Fr [g] w (w1.setCell ⟨g, j * 5 + r, none⟩ v) := (f.mono (by simp)).trans fS (fun y hy => .inl hy)
  have hsep : rb ≠ g := fun e => h.sep (by rw [hob, e])
  have hlen : (R.L.set j x).length = R.L.length := List.length_set
  have hfo : ∀ q, R.foot q → q ∉ [g] := fun q hq hqg => by
    obtain rfl := List.mem_singleton.1 hqg
    exact h.apart q hq hgb
  have hft : ∀ q, (R.setN j x).foot q → R.foot q ∨ w.heap.size ≤ q := by
    intro q hq
    rcases hq with hq | hq | hq | ⟨y, hy, hq⟩
    · exact .inl (.inl hq)
    · exact .inl (.inr (.inl hq))
    · exact .inl (.inr (.inr (.inl hq)))
    · rcases List.mem_or_eq_of_mem_set hy with hy | rfl
      · exact .inl (.inr (.inr (.inr ⟨y, hy, hq⟩)))
      · rcases ha q hq with h1 | h1
        · exact .inl (.inr (.inr (.inr ⟨_, getD_memD R.L j hj, h1⟩)))
        · exact .inr h1
  refine ⟨⟨?_, h.rows.frH f8 (fun q hq => hfo q (.inl hq)), fun y hy => ?_, h.calls.frH f8 (fun q hq => hfo q (.inr (.inr (.inl hq)))), ?_, fun y hy => ?_, fun q hq hqb => ?_, h.sep, by show (R.L.set j x).length ≤ 900; rw [hlen]; exact h.few, h.en, h.uq, h.cf⟩, f8.mono (fun y hy => by obtain rfl := List.mem_singleton.1 hy; exact .inl hgb), fun y hy => .inl hy, hft⟩
  · exact h.head.fr f8 (by simp; exact hsep)
  · have hf := h.flats y hy
    exact ⟨⟨hf.evs.1, hf.evs.2.frH f8 (fun q hq => hfo q (.inr (.inl ⟨y, hy, .inl hq⟩)))⟩, ⟨hf.ties.1, hf.ties.2.frH f8 (fun q hq => hfo q (.inr (.inl ⟨y, hy, .inr hq⟩)))⟩, hf.few, hf.few2⟩
  · have ho := own_frS h.own f (by simp)
    show (w1.setCell ⟨g, j * 5 + r, none⟩ v).ownsRow 0 125 5 R.lv (R.L.set j x).length (flatC (R.setN j x).cs (R.L.set j x).length)
    rw [hlen, hv] at *
    have e : flatC (R.setN j x).cs R.L.length = (flatC R.cs R.L.length).set (j * 5 + r) v := by
      refine flatC_set (fun i => rnd_len _) hr ?_ (fun i hi => ?_) _ hj
      · show ((R.L.set j x).getD j default).cells = (R.L.getD j default).cells.set r v
        rw [getD_setN hj, if_pos rfl, hx]
      · show ((R.L.set j x).getD i default).cells = (R.L.getD i default).cells
        rw [getD_setN hj, if_neg hi]
    rw [e]
    exact own_setCell ho (by omega) v
  · rcases List.mem_or_eq_of_mem_set hy with hy | rfl
    · exact ⟨(h.mks y hy).1, (h.mks y hy).2.frH f8 (fun q hq => hfo q (.inr (.inr (.inr ⟨y, hy, hq⟩))))⟩
    · refine ⟨hm.1, hm.2.frH fS (fun q hq hqg => ?_)⟩
      obtain rfl := List.mem_singleton.1 hqg
      rcases ha q hq with h1 | h1
      · exact hfo q (.inr (.inr (.inr ⟨_, getD_memD R.L j hj, h1⟩))) (by simp)
      · omega
  · rcases hft q hq with h1 | h1
    · exact h.apart q h1 hqb
    · have := h.block_lt (g := q) hqb
      omega
theorem liveN_setM (L : List RND) {j : Nat} (hj : j < L.length) (a : Option Addr) (c : Nat) (M : List MarkD) : ∀ n, liveN (L.set j { L.getD j default with a := a, c := c, m := M }) n = (liveN L n).map (PI.setm j M) := by
  intro n
  induction n with
  | zero => rfl
  | succ n ih =>
    rw [liveN_succ, liveN_succ, ih, List.map_append, getD_setN hj]
    congr 1
    by_cases h : n = j
    · subst h
      rw [if_pos rfl]
      cases hl : (L.getD n default).lives
      · rfl
      · simp only [if_true, List.map_cons, List.map_nil, RND.pi, PI.setm]
    · rw [if_neg h]
      cases hl : (L.getD n default).lives
      · rfl
      · simp only [if_true, List.map_cons, List.map_nil, RND.pi, PI.setm]
        rw [if_neg (by omega)]
theorem liveN_dead (L : List RND) {j : Nat} (hj : j < L.length) : ∀ n, liveN (L.set j { L.getD j default with lives := false }) n = (liveN L n).filter (fun z => decide (z.id ≠ (j : Int))) := by
  intro n
  induction n with
  | zero => rfl
  | succ n ih =>
    rw [liveN_succ, liveN_succ, ih, List.filter_append, getD_setN hj]
    congr 1
    by_cases h : n = j
    · subst h
      rw [if_pos rfl]
      cases hl : (L.getD n default).lives
      · rfl
      · simp [RND.pi]
    · rw [if_neg h]
      cases hl : (L.getD n default).lives
      · rfl
      · simp only [if_true, RND.pi]
        rw [List.filter_cons, if_pos (by simp; omega)]
        rfl
/-- The first j nodes are a tick older. -/
structure RTick (R R' : RefD) (j : Nat) : Prop where
  eq : R' = { R with L := R'.L }
  len : R'.L.length = R.L.length
  old : ∀ i, i < j → i < R.L.length → (R'.L.getD i default).lives = (R.L.getD i default).lives ∧ ((R.L.getD i default).lives = true → (R'.L.getD i default).pi i = ((R.L.getD i default).pi i).tick)
  new : ∀ i, j ≤ i → R'.L.getD i default = R.L.getD i default
theorem RTick.refl (R : RefD) : RTick R R 0 := ⟨rfl, rfl, fun i h => absurd h (by omega), fun i h => rfl⟩
theorem RTick.skip {R R' : RefD} {j : Nat} (h : RTick R R' j) (hl : (R.L.getD j default).lives = false) : RTick R R' (j + 1) := by
  refine ⟨h.eq, h.len, fun i hi hlen => ?_, fun i hi => h.new i (by omega)⟩
  by_cases hij : i = j
  · subst hij
    rw [h.new i (Nat.le_refl _)]
    exact ⟨rfl, fun h1 => by rw [hl] at h1; cases h1⟩
  · exact h.old i (by omega) hlen
theorem RTick.step {R R' : RefD} {j : Nat} (h : RTick R R' j) (hj : j < R.L.length) (a : Option Addr) (c : Nat) : RTick R (R'.setN j { R'.L.getD j default with a := a, c := c, m := (R'.L.getD j default).m.map tickM }) (j + 1) := by
  have hj' : j < R'.L.length := by rw [h.len]; exact hj
  have hn := h.new j (Nat.le_refl _)
  refine ⟨?_, by show (R'.L.set j _).length = _; rw [List.length_set, h.len], fun i hi hl => ?_, fun i hi => ?_⟩
  · have h1 := h.eq
    unfold RefD.setN
    rw [h1]
  · show ((R'.L.set j _).getD i default).lives = _ ∧ _
    have e : (R'.setN j { R'.L.getD j default with a := a, c := c, m := (R'.L.getD j default).m.map tickM }).L.getD i default = if i = j then { R'.L.getD j default with a := a, c := c, m := (R'.L.getD j default).m.map tickM } else R'.L.getD i default := getD_setN hj' _ i
    rw [e, getD_setN hj']
    by_cases hij : i = j
    · subst hij
      rw [if_pos rfl, hn]
      exact ⟨rfl, fun _ => rfl⟩
    · rw [if_neg hij]
      exact h.old i (by omega) hl
  · show (R'.L.set j _).getD i default = _
    rw [getD_setN hj', if_neg (by omega)]
    exact h.new i (by omega)
theorem RTick.live {R R' : RefD} {j : Nat} (h : RTick R R' j) : ∀ n, n ≤ j → n ≤ R.L.length → liveN R'.L n = (liveN R.L n).map PI.tick := by
  intro n
  induction n with
  | zero => intro _ _; rfl
  | succ n ih =>
    intro hn hl
    rw [liveN_succ, liveN_succ, ih (by omega) (by omega), List.map_append]
    congr 1
    obtain ⟨h1, h2⟩ := h.old n (by omega) (by omega)
    rw [h1]
    cases hb : (R.L.getD n default).lives
    · rfl
    · simp only [if_true, List.map_cons, List.map_nil]
      rw [h2 hb]
theorem RTick.pl {R R' : RefD} (h : RTick R R' R.L.length) : R'.pl = { R.pl with L := R.pl.L.map PI.tick } := by
  have e := h.eq
  refine PT.ext ?_ ?_ ?_ ?_
  · rw [e]; rfl
  · rw [e]; rfl
  · show liveN R'.L R'.L.length = _
    rw [h.len]
    exact h.live _ (Nat.le_refl _) (Nat.le_refl _)
  · show R'.L.length = R.L.length
    exact h.len
end Go.Proofs.Ytclkahggfdnpgaa
set_option linter.unusedVariables false
set_option linter.unusedSimpArgs false
namespace Go.Proofs.Ytclkahggfdnpgaa
open Go.RowKit
theorem RefAt.frozen {w : World} {rb : Nat} {R : RefD} (h : RefAt w rb R) {g n c : Nat} (hv : R.lv = .slice (some ⟨g, 0, none⟩) n c) (i : Nat) : w.frozen? ⟨g, i, none⟩ = false := by
  rcases h.own.2 with ⟨h1, _⟩ | ⟨g', cap, cur, h1, hb, hg, _⟩
  · rw [hv] at h1; cases h1
  · rw [hv] at h1
    cases h1
    exact frozen_of_row w g i _ _ hg
def RTickP (rb : Nat) (R : RefD) (w : World) (e : Ending) (w' : World) : Prop := ∃ R', e = .returned (.int .i64 (tickF R.pl).1) ∧ R'.pl = (tickF R.pl).2 ∧ NextR rb R R' w w'
set_option maxHeartbeats 4000000 in
set_option maxRecDepth 100000 in
theorem rttick_any (rb : Nat) (R : RefD) (w : World) {q : Nat} (h : RefAt w rb R) (gd : GoodP R.pl q) :
    Calls Try.prog 46 #[.pointer (some ⟨rb, 0, none⟩)] w (RTickP rb R w) := by
  have C1 := rtslack_any rb R w h gd
  obtain ⟨s, hs⟩ : ∃ s, R.pl.slack = s := ⟨_, rfl⟩
  rw [hs] at C1
  have HS := Lib.hid hs
  have HH := Lib.hid h
  have HG := Lib.hid gd
  by_cases h1 : s < 1
  · have d1 : decide (s < 1) = true := decide_eq_true h1
    have e1 := tickF_due (P := R.pl) (by rw [hs]; exact h1)
    have E1 := Lib.hid e1
    clear h gd hs e1
    go_enter Try.func46, Try.ntmps46
    go_wp2_with fail
    refine C1.mono ?_
    rintro e w1 ⟨rfl, hF⟩
    have F1 := Lib.hid hF
    clear hF C1
    go_wp2_with fail
    go_ret
    exact ⟨R, by rw [E1.out]; rfl, by rw [E1.out], .refl HH.out F1.out⟩
  · have d1 : decide (s < 1) = false := decide_eq_false h1
    have e1 := tickF_go (P := R.pl) (by rw [hs]; omega)
    have E1 := Lib.hid e1
    have H1 := Lib.hid (show 1 ≤ s by omega)
    obtain ⟨a, c, hv⟩ := h.lvform
    have r2 : w.cell? ⟨rb, 2, none⟩ = some (.slice a R.L.length c) := by rw [← hv]; exact h.head.cell 2
    have HV := Lib.hid hv
    have hfew := h.few
    obtain ⟨n, hn⟩ : ∃ n, n = R.L.length := ⟨_, rfl⟩
    obtain ⟨nf, hnf⟩ : ∃ n, n = R.Fs.length := ⟨_, rfl⟩
    rw [← hn] at r2 hfew
    have HN := Lib.hid hn
    have HNF := Lib.hid hnf
    clear h gd hv hn hnf hs e1 h1 r2
    go_enter Try.func46, Try.ntmps46
    go_wp2_with fail
    refine C1.mono ?_
    rintro e w1 ⟨rfl, hF⟩
    have F1 := Lib.hid hF
    have HNX := Lib.hid (NextR.refl HH.out F1.out)
    clear hF C1
    go_wp2_with fail
    go_loopg [3] n (fun k i wr => ∃ (j : Nat) (R' : RefD), k = n - j ∧ j ≤ n ∧ i = .int .i64 j ∧ RTick R R' j ∧ NextR rb R R' w wr)
    case atStart => exact ⟨0, R, rfl, by omega, rfl, RTick.refl R, HNX.out⟩
    case round =>
      obtain ⟨j, R', rfl, hj, rfl, hR, hX⟩ := hrel
      have RT := Lib.hid hR
      have X := Lib.hid hX
      clear hR hX
      have hlv : R'.lv = R.lv := by rw [RT.out.eq]
      have hFs : R'.Fs = R.Fs := by rw [RT.out.eq]
      have hfa : R'.fa = R.fa := by rw [RT.out.eq]
      have hfc : R'.fc = R.fc := by rw [RT.out.eq]
      have r2 : wr.cell? ⟨rb, 2, none⟩ = some (.slice a n c) := by
        have := X.out.1.head.cell 2
        rw [this]
        show some R'.lv = _
        rw [hlv, HV.out, ← HN.out]
      by_cases hjn : j < n
      · have hd : decide (j < n) = true := by rw [decide_eq_true_iff]; omega
        have hjT : j < R.L.length := by rw [← HN.out]; exact hjn
        have hj' : j < R'.L.length := by rw [RT.out.len]; exact hjT
        have hn0 := RT.out.new j (Nat.le_refl _)
        obtain ⟨g, c2, hv2, _, hg, hc⟩ := X.out.1.node hj'
        have HVV := Lib.hid hv2
        rw [hlv, HV.out] at hv2
        simp only [Value.slice.injEq] at hv2
        obtain ⟨rfl, _, rfl⟩ := hv2
        have MK := Lib.hid (X.out.1.mks _ (getD_memD R'.L j hj'))
        have TP := Lib.hid (fun hl => RefAt.tp HG.out (j := j) hjT hl)
        have SL := Lib.hid (fun hl => (slackP_le R.pl.f R.pl.L 1048576).2 ((R.L.getD j default).pi j) (liveN_mem.2 ⟨j, hjT, hl, rfl⟩))
        have LV := Lib.hid (fun (hl : (R.L.getD j default).lives = false) => RT.out.skip hl)
        obtain ⟨x, hx⟩ : ∃ x, R'.L.getD j default = x := ⟨_, rfl⟩
        rw [hx] at hc MK hn0
        rw [← hn0] at TP LV SL
        have HXE := Lib.hid hx
        have x0 : wr.cell? ⟨g, j * 5, none⟩ = some (.bool x.lives) := hc 0 _ rfl
        obtain ⟨lb, hlb⟩ : ∃ b, x.lives = b := ⟨_, rfl⟩
        rw [hlb] at x0 TP LV SL
        cases lb
        · have LV2 := Lib.hid (LV.out rfl)
          clear hc hx hlb hn0 hj' hjT hlv hFs hfa hfc
          go_wp2_with fail
          go_roundg (n - (j + 1))
          case measure => omega
          case rel => exact ⟨j + 1, R', rfl, by omega, rfl, LV2.out, X.out⟩
        · obtain ⟨htp, hft⟩ := TP.out rfl
          have hsl : 1 ≤ slackI (R.Fs.getD x.tp default).en x.m := by
            have h1 := SL.out rfl
            have h3 : R.pl.f (x.pi j) = (R.Fs.getD x.tp default).nrm := getD_nrm _ _
            rw [h3] at h1
            have h4 : 1 ≤ R.pl.slack := by rw [HS.out]; exact H1.out
            exact Int.le_trans h4 h1
          obtain ⟨gt, ot, hfa2, _, hct⟩ := X.out.1.rows.at_ (by rw [hFs]; omega)
          have hcx := hct x.tp (by rw [hFs]; omega)
          obtain ⟨f, hf⟩ : ∃ f, R.Fs.getD x.tp default = f := ⟨_, rfl⟩
          have hfm : f ∈ R.Fs := by rw [← hf]; exact getD_memD _ _ htp
          have hen := HH.out.en f hfm
          rw [hFs, hf] at hcx
          rw [hf] at hft hsl
          have hE : tickE f x.m = 0 := tick_go hft (by omega)
          have x1 : wr.cell? ⟨g, j * 5 + 1, none⟩ = some (.int .i64 x.tp) := hc 1 _ rfl
          have x4 : wr.cell? ⟨g, j * 5 + 4, none⟩ = some (.slice x.a x.m.length x.c) := hc 4 _ rfl
          have y0 : wr.cell? ⟨gt, ot + x.tp * 2, none⟩ = some (.slice f.ea f.en f.ec) := hcx 0 _ rfl
          have y1 : wr.cell? ⟨gt, ot + x.tp * 2 + 1, none⟩ = some (.slice f.ta f.tn f.tc) := hcx 1 _ rfl
          have r0 : wr.cell? ⟨rb, 0, none⟩ = some (.slice (some ⟨gt, ot, none⟩) nf R.fc) := by
            have := X.out.1.head.cell 0
            rw [this]
            show some (Value.slice R'.fa R'.Fs.length R'.fc) = _
            rw [hfa2, hFs, hfc, ← HNF.out]
          have htn : x.tp < nf := by rw [HNF.out]; exact htp
          have hmle : x.m.length ≤ 10 := by rw [fits_len hft]; exact hen
          have D2 := Lib.hid (fun w' (g' : Fr [] wr w') => (hE ▸ rtick_fresh f x.a x.m.length x.c x.m w' (MK.out.fr g') (by omega) (by omega) : Calls Try.prog 32 #[f.val, .slice x.a x.m.length x.c] w' (NextF (x.m.map tickM) 0 w')).mono fun e w' h => nextF_ok0 h)
          obtain ⟨N, hNN⟩ : ∃ N, x.m.map tickM = N := ⟨_, rfl⟩
          rw [hNN] at D2
          have HNN := Lib.hid hNN
          obtain ⟨xa, hxa⟩ : ∃ a, x.a = a := ⟨_, rfl⟩
          obtain ⟨xc, hxc⟩ : ∃ a, x.c = a := ⟨_, rfl⟩
          obtain ⟨ml, hml⟩ : ∃ a, x.m.length = a := ⟨_, rfl⟩
          obtain ⟨tp, htp2⟩ : ∃ a, x.tp = a := ⟨_, rfl⟩
          rw [hxa, hml, hxc] at x4 D2
          rw [htp2] at x1 y0 y1 htn
          have dt : decide (tp < nf) = true := decide_eq_true htn
          have KP := Lib.hid (fun w' (f' : Fr [] wr w') => (⟨cell_fr' r0 f', cell_fr' r2 f', cell_fr' x1 f', cell_fr' x4 f', cell_fr' y0 f', cell_fr' y1 f'⟩ : w'.cell? ⟨rb, 0, none⟩ = some (.slice (some ⟨gt, ot, none⟩) nf R.fc) ∧ w'.cell? ⟨rb, 2, none⟩ = some (.slice (some ⟨g, 0, none⟩) n c) ∧ w'.cell? ⟨g, j * 5 + 1, none⟩ = some (.int .i64 tp) ∧ w'.cell? ⟨g, j * 5 + 4, none⟩ = some (.slice xa ml xc) ∧ w'.cell? ⟨gt, ot + tp * 2, none⟩ = some (.slice f.ea f.en f.ec) ∧ w'.cell? ⟨gt, ot + tp * 2 + 1, none⟩ = some (.slice f.ta f.tn f.tc)))
          unfold FlatD.val at D2
          have HJ' := Lib.hid hj'
          have HJT := Lib.hid hjT
          clear hc hx hlb hct hcx hf hfm hxa hxc hml htp2 htp hft hfa hmle hn0 hj' hjT hlv hFs hfc hE hNN hsl hfa2
          go_wp2_with fail
          refine wp_region_lastM (S := (fun w' => w'.cell? ⟨rb, 0, none⟩ = some (.slice (some ⟨gt, ot, none⟩) nf R.fc) ∧ w'.cell? ⟨rb, 2, none⟩ = some (.slice (some ⟨g, 0, none⟩) n c) ∧ w'.cell? ⟨g, j * 5 + 1, none⟩ = some (.int .i64 tp) ∧ w'.cell? ⟨g, j * 5 + 4, none⟩ = some (.slice xa ml xc) ∧ w'.cell? ⟨gt, ot + tp * 2, none⟩ = some (.slice f.ea f.en f.ec) ∧ w'.cell? ⟨gt, ot + tp * 2 + 1, none⟩ = some (.slice f.ta f.tn f.tc))) 33 (by kernel_rfl) (KP.out _ ((Fr.refl [] wr).drew)) (fun hHeld => ?_)
          refine wpAnyM_take (i := 0) (v := ?_) rfl (by kernel_rfl) (by kernel_rfl) (by kernel_rfl) (by kernel_rfl) (fun _ _ _ h => h) (Or.inl ⟨rfl, ?_⟩) hHeld ?_
          rotate_left
          · (intro w hSw; (try dsimp only at hSw); go_simp; try (with_reducible rfl))
          simp only [List.getElem_toArray, List.getElem_cons_succ, List.getElem_cons_zero, Act.put, List.setIfInBounds_toArray, List.set_cons_zero, List.set_cons_succ]
          refine wpAnyM_take (i := 1) (v := ?_) rfl (by kernel_rfl) (by kernel_rfl) (by kernel_rfl) (by kernel_rfl) (fun _ _ _ h => h) (Or.inl ⟨rfl, ?_⟩) hHeld ?_
          rotate_left
          · (intro w hSw; (try dsimp only at hSw); go_simp; try (with_reducible rfl))
          simp only [List.getElem_toArray, List.getElem_cons_succ, List.getElem_cons_zero, Act.put, List.setIfInBounds_toArray, List.set_cons_zero, List.set_cons_succ]
          refine wpAnyM_take (i := 2) (v := ?_) rfl (by kernel_rfl) (by kernel_rfl) (by kernel_rfl) (by kernel_rfl) (fun _ _ _ h => h) (Or.inl ⟨rfl, ?_⟩) hHeld ?_
          rotate_left
          · (intro w hSw; (try dsimp only at hSw); go_simp; try (with_reducible rfl))
          simp only [List.getElem_toArray, List.getElem_cons_succ, List.getElem_cons_zero, Act.put, List.setIfInBounds_toArray, List.set_cons_zero, List.set_cons_succ]
          refine wpAnyM_take (i := 3) (v := ?_) rfl (by kernel_rfl) (by kernel_rfl) (by kernel_rfl) (by kernel_rfl) (fun _ _ _ h => h) (Or.inl ⟨rfl, ?_⟩) hHeld ?_
          rotate_left
          · (intro w hSw; (try dsimp only at hSw); go_simp; try (with_reducible rfl))
          simp only [List.getElem_toArray, List.getElem_cons_succ, List.getElem_cons_zero, Act.put, List.setIfInBounds_toArray, List.set_cons_zero, List.set_cons_succ]
          refine wpAnyM_take (i := 4) (v := ?_) rfl (by kernel_rfl) (by kernel_rfl) (by kernel_rfl) (by kernel_rfl) (fun _ _ _ h => h) (Or.inl ⟨rfl, ?_⟩) hHeld ?_
          rotate_left
          · (intro w hSw; (try dsimp only at hSw); go_simp; try (with_reducible rfl))
          simp only [List.getElem_toArray, List.getElem_cons_succ, List.getElem_cons_zero, Act.put, List.setIfInBounds_toArray, List.set_cons_zero, List.set_cons_succ]
          refine wpAnyM_take (i := 5) (v := ?_) rfl (by kernel_rfl) (by kernel_rfl) (by kernel_rfl) (by kernel_rfl) (fun _ _ _ h => h) (Or.inl ⟨rfl, ?_⟩) hHeld ?_
          rotate_left
          · (intro w hSw; (try dsimp only at hSw); go_simp; try (with_reducible rfl))
          simp only [List.getElem_toArray, List.getElem_cons_succ, List.getElem_cons_zero, Act.put, List.setIfInBounds_toArray, List.set_cons_zero, List.set_cons_succ]
          refine wpAnyM_take (i := 6) (v := ?_) rfl (by kernel_rfl) (by kernel_rfl) (by kernel_rfl) (by kernel_rfl) (fun _ _ _ h => h) (Or.inl ⟨rfl, ?_⟩) hHeld ?_
          rotate_left
          · (intro w hSw; (try dsimp only at hSw); go_simp; try (with_reducible rfl))
          simp only [List.getElem_toArray, List.getElem_cons_succ, List.getElem_cons_zero, Act.put, List.setIfInBounds_toArray, List.set_cons_zero, List.set_cons_succ]
          refine wpAnyM_take (i := 7) (v := ?_) rfl (by kernel_rfl) (by kernel_rfl) (by kernel_rfl) (by kernel_rfl) (fun _ _ _ h => h) (Or.inl ⟨rfl, ?_⟩) hHeld ?_
          rotate_left
          · (intro w hSw; (try dsimp only at hSw); go_simp; try (with_reducible rfl))
          simp only [List.getElem_toArray, List.getElem_cons_succ, List.getElem_cons_zero, Act.put, List.setIfInBounds_toArray, List.set_cons_zero, List.set_cons_succ]
          refine wpAnyM_take (i := 8) (v := ?_) rfl (by kernel_rfl) (by kernel_rfl) (by kernel_rfl) (by kernel_rfl) (fun _ _ _ h => h) (Or.inl ⟨rfl, ?_⟩) hHeld ?_
          rotate_left
          · (intro w hSw; (try dsimp only at hSw); go_simp; try (with_reducible rfl))
          simp only [List.getElem_toArray, List.getElem_cons_succ, List.getElem_cons_zero, Act.put, List.setIfInBounds_toArray, List.set_cons_zero, List.set_cons_succ]
          refine wpAnyM_take (i := 9) (v := ?_) rfl (by kernel_rfl) (by kernel_rfl) (by kernel_rfl) (by kernel_rfl) (fun _ _ _ h => h) (Or.inl ⟨rfl, ?_⟩) hHeld ?_
          rotate_left
          · (intro w hSw; (try dsimp only at hSw); go_simp; try (with_reducible rfl))
          simp only [List.getElem_toArray, List.getElem_cons_succ, List.getElem_cons_zero, Act.put, List.setIfInBounds_toArray, List.set_cons_zero, List.set_cons_succ]
          refine wpAnyM_take (i := 10) (v := ?_) rfl (by kernel_rfl) (by kernel_rfl) (by kernel_rfl) (by kernel_rfl) (fun _ _ _ h => h) (Or.inl ⟨rfl, ?_⟩) hHeld ?_
          rotate_left
          · (intro w hSw; (try dsimp only at hSw); go_simp; try (with_reducible rfl))
          simp only [List.getElem_toArray, List.getElem_cons_succ, List.getElem_cons_zero, Act.put, List.setIfInBounds_toArray, List.set_cons_zero, List.set_cons_succ]
          refine wpAnyM_take (i := 11) (v := ?_) rfl (by kernel_rfl) (by kernel_rfl) (by kernel_rfl) (by kernel_rfl) (fun _ _ _ h => h) (Or.inl ⟨rfl, ?_⟩) hHeld ?_
          rotate_left
          · (intro w hSw; (try dsimp only at hSw); go_simp; try (with_reducible rfl))
          simp only [List.getElem_toArray, List.getElem_cons_succ, List.getElem_cons_zero, Act.put, List.setIfInBounds_toArray, List.set_cons_zero, List.set_cons_succ]
          refine wpAnyM_take (i := 12) (v := ?_) rfl (by kernel_rfl) (by kernel_rfl) (by kernel_rfl) (by kernel_rfl) (fun _ _ _ h => h) (Or.inl ⟨rfl, ?_⟩) hHeld ?_
          rotate_left
          · (intro w hSw; (try dsimp only at hSw); go_simp; try (with_reducible rfl))
          simp only [List.getElem_toArray, List.getElem_cons_succ, List.getElem_cons_zero, Act.put, List.setIfInBounds_toArray, List.set_cons_zero, List.set_cons_succ]
          refine wpAnyM_take (i := 13) (v := ?_) rfl (by kernel_rfl) (by kernel_rfl) (by kernel_rfl) (by kernel_rfl) (fun _ _ _ h => h) (Or.inl ⟨rfl, ?_⟩) hHeld ?_
          rotate_left
          · (intro w hSw; (try dsimp only at hSw); go_simp; try (with_reducible rfl))
          simp only [List.getElem_toArray, List.getElem_cons_succ, List.getElem_cons_zero, Act.put, List.setIfInBounds_toArray, List.set_cons_zero, List.set_cons_succ]
          refine wpAnyM_take (i := 14) (v := ?_) rfl (by kernel_rfl) (by kernel_rfl) (by kernel_rfl) (by kernel_rfl) (fun _ _ _ h => h) (Or.inl ⟨rfl, ?_⟩) hHeld ?_
          rotate_left
          · (intro w hSw; (try dsimp only at hSw); go_simp; try (with_reducible rfl))
          simp only [List.getElem_toArray, List.getElem_cons_succ, List.getElem_cons_zero, Act.put, List.setIfInBounds_toArray, List.set_cons_zero, List.set_cons_succ]
          refine wpAnyM_take (i := 15) (v := ?_) rfl (by kernel_rfl) (by kernel_rfl) (by kernel_rfl) (by kernel_rfl) (fun _ _ _ h => h) (Or.inl ⟨rfl, ?_⟩) hHeld ?_
          rotate_left
          · (intro w hSw; (try dsimp only at hSw); go_simp; try (with_reducible rfl))
          simp only [List.getElem_toArray, List.getElem_cons_succ, List.getElem_cons_zero, Act.put, List.setIfInBounds_toArray, List.set_cons_zero, List.set_cons_succ]
          refine wpAnyM_take (i := 16) (v := ?_) rfl (by kernel_rfl) (by kernel_rfl) (by kernel_rfl) (by kernel_rfl) (fun _ _ _ h => h) (Or.inl ⟨rfl, ?_⟩) hHeld ?_
          rotate_left
          · (intro w hSw; (try dsimp only at hSw); go_simp; try (with_reducible rfl))
          simp only [List.getElem_toArray, List.getElem_cons_succ, List.getElem_cons_zero, Act.put, List.setIfInBounds_toArray, List.set_cons_zero, List.set_cons_succ]
          refine wpAnyM_take (i := 17) (v := ?_) rfl (by kernel_rfl) (by kernel_rfl) (by kernel_rfl) (by kernel_rfl) (fun _ _ _ h => h) (Or.inl ⟨rfl, ?_⟩) hHeld ?_
          rotate_left
          · (intro w hSw; (try dsimp only at hSw); go_simp; try (with_reducible rfl))
          simp only [List.getElem_toArray, List.getElem_cons_succ, List.getElem_cons_zero, Act.put, List.setIfInBounds_toArray, List.set_cons_zero, List.set_cons_succ]
          refine wpAnyM_take (i := 18) (v := ?_) rfl (by kernel_rfl) (by kernel_rfl) (by kernel_rfl) (by kernel_rfl) (fun _ _ _ h => h) (Or.inl ⟨rfl, ?_⟩) hHeld ?_
          rotate_left
          · (intro w hSw; (try dsimp only at hSw); go_simp; try (with_reducible rfl))
          simp only [List.getElem_toArray, List.getElem_cons_succ, List.getElem_cons_zero, Act.put, List.setIfInBounds_toArray, List.set_cons_zero, List.set_cons_succ]
          refine wpAnyM_take (i := 19) (v := ?_) rfl (by kernel_rfl) (by kernel_rfl) (by kernel_rfl) (by kernel_rfl) (fun _ _ _ h => h) (Or.inl ⟨rfl, ?_⟩) hHeld ?_
          rotate_left
          · (intro w hSw; (try dsimp only at hSw); go_simp; try (with_reducible rfl))
          simp only [List.getElem_toArray, List.getElem_cons_succ, List.getElem_cons_zero, Act.put, List.setIfInBounds_toArray, List.set_cons_zero, List.set_cons_succ]
          refine wpAnyM_take (i := 20) (v := ?_) rfl (by kernel_rfl) (by kernel_rfl) (by kernel_rfl) (by kernel_rfl) (fun _ _ _ h => h) (Or.inl ⟨rfl, ?_⟩) hHeld ?_
          rotate_left
          · (intro w hSw; (try dsimp only at hSw); go_simp; try (with_reducible rfl))
          simp only [List.getElem_toArray, List.getElem_cons_succ, List.getElem_cons_zero, Act.put, List.setIfInBounds_toArray, List.set_cons_zero, List.set_cons_succ]
          refine wpAnyM_take (i := 21) (v := ?_) rfl (by kernel_rfl) (by kernel_rfl) (by kernel_rfl) (by kernel_rfl) (fun _ _ _ h => h) (Or.inl ⟨rfl, ?_⟩) hHeld ?_
          rotate_left
          · (intro w hSw; (try dsimp only at hSw); go_simp; try (with_reducible rfl))
          simp only [List.getElem_toArray, List.getElem_cons_succ, List.getElem_cons_zero, Act.put, List.setIfInBounds_toArray, List.set_cons_zero, List.set_cons_succ]
          refine wpAnyM_take (i := 22) (v := ?_) rfl (by kernel_rfl) (by kernel_rfl) (by kernel_rfl) (by kernel_rfl) (fun _ _ _ h => h) (Or.inl ⟨rfl, ?_⟩) hHeld ?_
          rotate_left
          · (intro w hSw; (try dsimp only at hSw); go_simp; try (with_reducible rfl))
          simp only [List.getElem_toArray, List.getElem_cons_succ, List.getElem_cons_zero, Act.put, List.setIfInBounds_toArray, List.set_cons_zero, List.set_cons_succ]
          refine wpAnyM_take (i := 23) (v := ?_) rfl (by kernel_rfl) (by kernel_rfl) (by kernel_rfl) (by kernel_rfl) (fun _ _ _ h => h) (Or.inl ⟨rfl, ?_⟩) hHeld ?_
          rotate_left
          · (intro w hSw; (try dsimp only at hSw); go_simp; try (with_reducible rfl))
          simp only [List.getElem_toArray, List.getElem_cons_succ, List.getElem_cons_zero, Act.put, List.setIfInBounds_toArray, List.set_cons_zero, List.set_cons_succ]
          refine wpAnyM_take (i := 24) (v := ?_) rfl (by kernel_rfl) (by kernel_rfl) (by kernel_rfl) (by kernel_rfl) (fun _ _ _ h => h) (Or.inl ⟨rfl, ?_⟩) hHeld ?_
          rotate_left
          · (intro w hSw; (try dsimp only at hSw); go_simp; try (with_reducible rfl))
          simp only [List.getElem_toArray, List.getElem_cons_succ, List.getElem_cons_zero, Act.put, List.setIfInBounds_toArray, List.set_cons_zero, List.set_cons_succ]
          refine wpAnyM_take (i := 25) (v := ?_) rfl (by kernel_rfl) (by kernel_rfl) (by kernel_rfl) (by kernel_rfl) (fun _ _ _ h => h) (Or.inl ⟨rfl, ?_⟩) hHeld ?_
          rotate_left
          · (intro w hSw; (try dsimp only at hSw); go_simp; try (with_reducible rfl))
          simp only [List.getElem_toArray, List.getElem_cons_succ, List.getElem_cons_zero, Act.put, List.setIfInBounds_toArray, List.set_cons_zero, List.set_cons_succ]
          refine wpAnyM_take (i := 26) (v := ?_) rfl (by kernel_rfl) (by kernel_rfl) (by kernel_rfl) (by kernel_rfl) (fun _ _ _ h => h) (Or.inl ⟨rfl, ?_⟩) hHeld ?_
          rotate_left
          · (intro w hSw; (try dsimp only at hSw); go_simp; try (with_reducible rfl))
          simp only [List.getElem_toArray, List.getElem_cons_succ, List.getElem_cons_zero, Act.put, List.setIfInBounds_toArray, List.set_cons_zero, List.set_cons_succ]
          refine wpAnyM_ready (rs := [27]) (by kernel_rfl) (by simp) ?_
          refine AllReadyM.cons rfl (fun K hK => ?_) AllReadyM.nil
          simp only [List.getElem_toArray, List.getElem_cons_succ, List.getElem_cons_zero]
          go_simp
          go_wp2_with (first | (go_at_call 32; refine (D2.out _ ((Fr.refl [] wr).drew)).mono ?_; rintro e w7 ⟨a7, c7, rfl, hM7, hF7, hfr7⟩))
          refine hK.out _ _ (KP.out _ (((Fr.refl [] wr).drew).trans hF7 (by simp))) (fun hHeld => ?_)
          clear hK K
          try simp only [List.getElem_toArray, List.getElem_cons_succ, List.getElem_cons_zero, Act.put, List.setIfInBounds_toArray, List.set_cons_zero, List.set_cons_succ]
          have F7 := Lib.hid (((Fr.refl [] wr).drew).trans hF7 (by simp))
          have HFR := Lib.hid (fun g o hg => Nat.le_trans ((Fr.refl [] wr).drew).size (hfr7 g o hg) : ∀ g o, a7 = some ⟨g, o, none⟩ → wr.heap.size ≤ g)
          have M7 := Lib.hid hM7
          clear hM7 hfr7 hF7 D2 KP x1 x4 y0 y1 r0
          refine wpAnyM_take (i := 28) (v := ?_) rfl (by kernel_rfl) (by kernel_rfl) (by kernel_rfl) (by kernel_rfl) (fun _ _ _ h => h) (Or.inl ⟨rfl, ?_⟩) hHeld ?_
          rotate_left
          · (intro w hSw; (try dsimp only at hSw); go_simp; try (with_reducible rfl))
          simp only [List.getElem_toArray, List.getElem_cons_succ, List.getElem_cons_zero, Act.put, List.setIfInBounds_toArray, List.set_cons_zero, List.set_cons_succ]
          refine wpAnyM_take (i := 29) (v := ?_) rfl (by kernel_rfl) (by kernel_rfl) (by kernel_rfl) (by kernel_rfl) (fun _ _ _ h => h) (Or.inl ⟨rfl, ?_⟩) hHeld ?_
          rotate_left
          · (intro w hSw; (try dsimp only at hSw); go_simp; try (with_reducible rfl))
          simp only [List.getElem_toArray, List.getElem_cons_succ, List.getElem_cons_zero, Act.put, List.setIfInBounds_toArray, List.set_cons_zero, List.set_cons_succ]
          refine wpAnyM_pure (i := 30) (v := ?_) rfl (by kernel_rfl) (by kernel_rfl) (by kernel_rfl) (by kernel_rfl) (fun _ _ _ h => h) (Or.inl ⟨rfl, ?_⟩) hHeld ?_
          rotate_left
          · (intro w hSw; go_simp; try (with_reducible rfl))
          simp only [List.getElem_toArray, List.getElem_cons_succ, List.getElem_cons_zero, Act.put, List.setIfInBounds_toArray, List.set_cons_zero, List.set_cons_succ]
          refine wpAnyM_ready (rs := [31]) (by kernel_rfl) (by simp) ?_
          refine AllReadyM.cons rfl (fun K hK => ?_) AllReadyM.nil
          simp only [List.getElem_toArray, List.getElem_cons_succ, List.getElem_cons_zero]
          go_simp
          refine hK.out _ _ (hHeld) (fun hHeld => ?_)
          clear hK K
          try simp only [List.getElem_toArray, List.getElem_cons_succ, List.getElem_cons_zero, Act.put, List.setIfInBounds_toArray, List.set_cons_zero, List.set_cons_succ]
          refine wpAnyM_take (i := 32) (v := ?_) rfl (by kernel_rfl) (by kernel_rfl) (by kernel_rfl) (by kernel_rfl) (fun _ _ _ h => h) (Or.inl ⟨rfl, ?_⟩) hHeld ?_
          rotate_left
          · (intro w hSw; (try dsimp only at hSw); go_simp; try (with_reducible rfl))
          simp only [List.getElem_toArray, List.getElem_cons_succ, List.getElem_cons_zero, Act.put, List.setIfInBounds_toArray, List.set_cons_zero, List.set_cons_succ]
          have z7 := hHeld.2.2.2.1
          have y7 : w7.frozen? ⟨g, j * 5 + 4, none⟩ = false := (X.out.1.fr F7.out).frozen HVV.out _
          refine wpAnyM_ready (rs := [33]) (by kernel_rfl) (by simp) ?_
          refine AllReadyM.end_ rfl (fun K hK => ?_)
          simp only [List.getElem_toArray, List.getElem_cons_succ, List.getElem_cons_zero]
          go_simp
          refine hK.out _ _ ?_
          clear hK K
          try simp only [List.getElem_toArray, List.getElem_cons_succ, List.getElem_cons_zero, Act.put, List.setIfInBounds_toArray, List.set_cons_zero, List.set_cons_succ]
          refine wpAnyM_done (by kernel_rfl) ?_ _
          have HFIN := Lib.hid (show NextR rb R (R'.setN j { R'.L.getD j default with a := a7, c := c7, m := N }) w (w7.setCell ⟨g, j * 5 + 4, none⟩ (.slice a7 N.length c7)) from
            X.out.trans (setn_fin X.out.1 HJ'.out F7.out HVV.out (by omega) rfl M7.out (fun q hq => by obtain ⟨_, o, ho⟩ := hq; exact .inr (HFR.out q o ho))))
          have HTR := Lib.hid (show RTick R (R'.setN j { R'.L.getD j default with a := a7, c := c7, m := N }) (j + 1) by
            have := RT.out.step HJT.out a7 c7
            rwa [HXE.out, HNN.out, ← HXE.out] at this)
          clear y7 z7 hHeld
          generalize w7.setCell ⟨g, j * 5 + 4, none⟩ (.slice a7 N.length c7) = w8 at *
          go_wp2_with fail
          go_roundg (n - (j + 1))
          case measure => omega
          case rel => exact ⟨j + 1, _, rfl, by omega, rfl, HTR.out, HFIN.out⟩
      · have hd : decide (j < n) = false := by rw [decide_eq_false_iff_not]; omega
        obtain rfl : j = n := by omega
        clear hlv hFs hfa hfc
        go_wp2_with fail
        go_ret
        exact ⟨R', by rw [E1.out]; rfl, by rw [E1.out]; have := RT.out; rw [HN.out] at this; exact this.pl, X.out⟩
end Go.Proofs.Ytclkahggfdnpgaa

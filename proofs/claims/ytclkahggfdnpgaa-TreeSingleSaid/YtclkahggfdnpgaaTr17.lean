/- The tree: New's tree is good; the contracts in plain terms. -/
import Derived.Test.YtclkahggfdnpgaaTr16
import Derived.Test.YtclkahggfdnpgaaTrP
set_option linter.unusedVariables false
set_option linter.unusedSimpArgs false
namespace Go.Proofs.Ytclkahggfdnpgaa
open Go.RowKit
def newPT (Fs : List FlatD) (Cs : List CallD) : PT := ⟨Fs.map FlatD.nrm, callsM Cs Cs.length, [⟨0, 0, (Fs.getD 0 default).E.map startM, -1, -1⟩], 1⟩
theorem SameF.nrm {f g : FlatD} (h : SameF f g) : g.nrm = f.nrm := by
  unfold FlatD.nrm
  rw [h.E, h.T, h.en, h.tn]
theorem NewT.pl {p : ProgD} {T : TreeD} (h : NewT p T) (h0 : 0 < p.Fs.length) : T.pl = newPT p.Fs p.Cs := by
  obtain ⟨x, hL, hx⟩ := h.L
  refine PT.ext ?_ h.C ?_ h.next
  · show T.Fs.map FlatD.nrm = p.Fs.map FlatD.nrm
    apply List.ext_getElem?
    intro i
    rw [List.getElem?_map, List.getElem?_map]
    by_cases hi : i < p.Fs.length
    · rw [getD_at p.Fs i hi, getD_at T.Fs i (by rw [h.len]; exact hi)]
      simp only [Option.map_some]
      rw [(h.same i hi).nrm]
    · rw [List.getElem?_eq_none (by rw [h.len]; omega), List.getElem?_eq_none (by omega)]
  · show T.L.map InsD.pi = _
    rw [hL]
    unfold InsD.plain at hx
    simp only [Prod.mk.injEq] at hx
    obtain ⟨h1, h2, h3, h4, h5⟩ := hx
    show [InsD.pi x] = [_]
    unfold InsD.pi
    rw [h1, h2, h3, h4, h5, (h.same 0 h0).E]
theorem callsM_mem {Cs : List CallD} {j : Nat} {k : Int × Int} {c : CallD} (h : callsM Cs j k = some c) : ∃ i, i < j ∧ Cs.getD i default = c ∧ k = c.key := by
  induction j with
  | zero => cases h
  | succ j ih =>
    have e : callsM Cs (j + 1) k = if k = (Cs.getD j default).key then some (Cs.getD j default) else callsM Cs j k := rfl
    rw [e] at h
    split at h
    · rename_i hk
      simp only [Option.some.injEq] at h
      exact ⟨j, by omega, h, by rw [hk, h]⟩
    · obtain ⟨i, hi, h1, h2⟩ := ih h
      exact ⟨i, by omega, h1, h2⟩
theorem newPT_good {Fs : List FlatD} {Cs : List CallD} (hm : mayB Fs Cs = true) (en : ∀ f ∈ Fs, f.en ≤ 10) (el : ∀ f ∈ Fs, f.E.length = f.en) : GoodP (newPT Fs Cs) 1 := by
  unfold mayB at hm
  rw [Bool.and_eq_true, Bool.and_eq_true, decide_eq_true_iff, decide_eq_true_iff, List.all_eq_true] at hm
  obtain ⟨hall, h1, h8⟩ := hm
  have hmem : ∀ x ∈ (newPT Fs Cs).L, x = ⟨0, 0, (Fs.getD 0 default).E.map startM, -1, -1⟩ := fun x hx => List.mem_singleton.1 hx
  refine ⟨fun x hx => ?_, fun x hx => ?_, fun f hf => ?_, fun f hf => ?_, by simp [newPT], fun x hx => ?_, ⟨_, [], rfl, rfl, rfl, rfl, rfl⟩, fun x hx h0 => ?_, fun k c hc => ?_, ?_, by simp [newPT], Nat.le_refl 1⟩
  · rw [hmem x hx]
    show 0 < (Fs.map FlatD.nrm).length
    simp; omega
  · rw [hmem x hx]
    show fitsB ((Fs.map FlatD.nrm).getD 0 default).en _ = true
    rw [getD_nrm]
    have : Fs.getD 0 default ∈ Fs := getD_memD _ _ (by omega)
    show fitsB (Fs.getD 0 default).en _ = true
    rw [← el _ this]
    exact start_fits _
  · obtain ⟨g, hg, rfl⟩ := List.mem_map.1 hf
    exact en g hg
  · obtain ⟨g, hg, rfl⟩ := List.mem_map.1 hf
    exact el g hg
  · rw [hmem x hx]
    show (0 : Int) ≤ 0 ∧ (0 : Int) < ((1 : Nat) : Int)
    omega
  · rw [hmem x hx] at h0
    exact absurd rfl h0
  · obtain ⟨i, hi, rfl, rfl⟩ := callsM_mem hc
    have hb := hall i (List.mem_range.2 hi)
    unfold badC at hb
    simp only [Bool.not_eq_true', Bool.or_eq_false_iff, Bool.not_eq_false', decide_eq_false_iff_not] at hb
    obtain ⟨b1, b2, b3, b4, _⟩ := hb
    unfold hasP at b1 b2 b4
    simp only [Bool.and_eq_true, decide_eq_true_iff] at b1 b2 b4
    refine ⟨rfl, by omega, by omega, ?_, by omega⟩
    show _ < (((Fs.map FlatD.nrm).length : Nat) : Int)
    rw [List.length_map]
    omega
  · show (Fs.map FlatD.nrm).length ≤ 8
    simp
    exact h8
/-- Contracts in plain terms. -/
def DoQ (tb hi : Nat) (T : TreeD) (w : World) (q : Int × Int × PT) (e : Ending) (w' : World) : Prop :=
  ∃ T', e = .returned (.tuple #[.int .i64 q.1, .int .i64 q.2.1]) ∧ T'.pl = q.2.2 ∧ NextT tb hi T T' w w'
def EndQ (tb hi : Nat) (T : TreeD) (w : World) (q : Int × PT) (e : Ending) (w' : World) : Prop :=
  ∃ T', e = .returned (.int .i64 q.1) ∧ T'.pl = q.2 ∧ NextT tb hi T T' w w'
theorem do_pl (tb hi : Nat) (T : TreeD) (id at' : Int) (w : World) {n : Nat} (h : TreeAt w tb hi T) (g : GoodP T.pl n) (hn : n ≤ 900) (hhi : hi ≤ w.heap.size) :
    Calls Try.prog 41 #[.pointer (some ⟨tb, 0, none⟩), .int .i64 id, .int .i64 at'] w (DoQ tb hi T w (doF T.pl id at')) := by
  refine (tdo_any tb hi T id at' w h (g.good hn) hhi).mono ?_
  rintro e w' ⟨r, E, T', rfl, hD, hN⟩
  rw [hD.pl g]
  exact ⟨T', rfl, rfl, hN⟩
theorem end_pl (tb hi : Nat) (T : TreeD) (id : Int) (w : World) {n : Nat} (h : TreeAt w tb hi T) (g : GoodP T.pl n) (hn : n ≤ 900) (hhi : hi ≤ w.heap.size) :
    Calls Try.prog 43 #[.pointer (some ⟨tb, 0, none⟩), .int .i64 id] w (EndQ tb hi T w (endF T.pl id)) := by
  refine (tend_any tb hi T id w h (g.good hn) hhi).mono ?_
  rintro e w' ⟨E, T', rfl, hD, hN⟩
  rw [hD.pl g]
  exact ⟨T', rfl, rfl, hN⟩
theorem tick_pl (tb hi : Nat) (T : TreeD) (w : World) {n : Nat} (h : TreeAt w tb hi T) (g : GoodP T.pl n) (hn : n ≤ 900) (hhi : hi ≤ w.heap.size) :
    Calls Try.prog 45 #[.pointer (some ⟨tb, 0, none⟩)] w (EndQ tb hi T w (tickF T.pl)) := by
  refine (ttick_any tb hi T w h (g.good hn) hhi).mono ?_
  rintro e w' (⟨rfl, hs, hF⟩ | ⟨rfl, hs, T', hT, hN⟩)
  · rw [slack_pl] at hs
    unfold tickF
    rw [if_pos hs]
    exact ⟨T, rfl, rfl, .refl h hF⟩
  · rw [slack_pl] at hs
    unfold tickF
    rw [if_neg (by omega)]
    exact ⟨T', rfl, hT.pl, hN⟩
theorem slack_q (tb hi : Nat) (T : TreeD) (w : World) {n : Nat} (h : TreeAt w tb hi T) (g : GoodP T.pl n) (hn : n ≤ 900) :
    Calls Try.prog 54 #[.pointer (some ⟨tb, 0, none⟩)] w fun e w' => e = .returned (.int .i64 T.pl.slack) ∧ Fr [] w w' := by
  rw [← slack_pl]
  exact tslack_any tb hi T w h (g.good hn)
def PT.done (P : PT) : Bool := decide (P.L.length = 1) && accB (P.Fs.getD 0 default).en (P.L.getD 0 default).m
theorem done_q (tb hi : Nat) (T : TreeD) (w : World) {n : Nat} (h : TreeAt w tb hi T) (g : GoodP T.pl n) (hn : n ≤ 900) :
    Calls Try.prog 56 #[.pointer (some ⟨tb, 0, none⟩)] w fun e w' => e = .returned (.bool T.pl.done) ∧ Fr [] w w' := by
  have e : T.pl.done = doneT T.Fs T.L := by
    unfold PT.done doneT
    rw [getD_pl]
    obtain ⟨x, r, hL, _⟩ := (g.good hn).root
    have : T.pl.L = T.L.map InsD.pi := rfl
    rw [this, hL]
    simp only [List.map_cons, List.length_cons, List.length_map]
    rfl
  rw [e]
  exact done_any tb hi T w h (g.good hn)
def MarkQ (P : PT) (id : Int) (w : World) (e : Ending) (w' : World) : Prop :=
  (P.of id = none ∧ e = .returned (.tuple #[.slice none 0 0, .bool false]) ∧ Fr [] w w') ∨
  ∃ x, P.of id = some x ∧ ∃ a c, e = .returned (.tuple #[.slice a x.m.length c, .bool true]) ∧ MarksAt w' a x.m.length x.m ∧ (∀ g o, 0 < x.m.length → a = some ⟨g, o, none⟩ → w.heap.size ≤ g) ∧ Fr [] w w'
theorem mark_q (tb hi : Nat) (T : TreeD) (id : Int) (w : World) {n : Nat} (h : TreeAt w tb hi T) (g : GoodP T.pl n) (hn : n ≤ 900) :
    Calls Try.prog 58 #[.pointer (some ⟨tb, 0, none⟩), .int .i64 id] w (MarkQ T.pl id w) := by
  refine (marking_any tb hi T id w h (g.good hn)).mono ?_
  rintro e w' (⟨rfl, hno, hF⟩ | ⟨x, hx, hid, a, c, rfl, hM, hf, hF⟩)
  · exact .inl ⟨of_pl_none hno, rfl, hF⟩
  · exact .inr ⟨x.pi, of_pl g.srt hx hid, a, c, rfl, hM, hf, hF⟩
/-- How deep an instance is. -/
def PT.depthN (P : PT) : Nat → Int → Int
  | 0, _ => -1
  | k + 1, id => match P.of id with
    | none => -1
    | some x => P.depthN k x.par + 1
def PT.depth (P : PT) (id : Int) : Int := P.depthN 1000 id
theorem depthI_neg {T : TreeD} {n : Nat} (g : GoodP T.pl n) {id d : Int} (h : DepthI T.L id d) (h0 : id < 0) : d = -1 := by
  cases h with
  | out _ => rfl
  | up hy hd2 =>
    rename_i y d2
    have := g.lo y.pi (List.mem_map.2 ⟨y, hy, rfl⟩)
    have : 0 ≤ y.id := this.1
    omega
theorem depthN_eq {T : TreeD} {n : Nat} (g : GoodP T.pl n) {id d : Int} (h : DepthI T.L id d) : ∀ k : Nat, id < k → T.pl.depthN k id = d ∨ (k = 0 ∧ id < 0) := by
  induction h with
  | out hno =>
    intro k hk
    match k with
    | 0 => exact .inl rfl
    | k + 1 =>
      refine .inl ?_
      unfold PT.depthN
      rw [of_pl_none hno]
  | up hx hd ih =>
    rename_i x d
    intro k hk
    have hlo := g.lo x.pi (List.mem_map.2 ⟨x, hx, rfl⟩)
    have hpx : x.par < x.id := by
      by_cases h0 : x.id = 0
      · obtain ⟨y, r, hL, y1, y2, _⟩ := g.root
        have : x.pi = y := srt_uniq g.srt (List.mem_map.2 ⟨x, hx, rfl⟩) (by rw [hL]; simp) (by rw [y1]; exact h0)
        have : x.par = -1 := by rw [← y2, ← this]; rfl
        omega
      · exact (g.par x.pi (List.mem_map.2 ⟨x, hx, rfl⟩) h0).2.1
    have hlo1 : 0 ≤ x.id := hlo.1
    match k with
    | 0 => exact .inr ⟨rfl, by omega⟩
    | k + 1 =>
      refine .inl ?_
      unfold PT.depthN
      rw [of_pl g.srt hx rfl]
      simp only
      rcases ih k (by have : ((k + 1 : Nat) : Int) = k + 1 := by omega
                      omega) with h1 | ⟨h1, h2⟩
      · show T.pl.depthN k x.par + 1 = d + 1
        rw [h1]
      · subst h1
        have hd' : d = -1 := depthI_neg g hd (by omega)
        rw [hd']
        rfl
theorem depth_q (tb hi : Nat) (T : TreeD) (id : Int) (w : World) {n : Nat} (h : TreeAt w tb hi T) (g : GoodP T.pl n) (hn : n ≤ 900) :
    Calls Try.prog 52 #[.pointer (some ⟨tb, 0, none⟩), .int .i64 id] w fun e w' => e = .returned (.int .i64 (T.pl.depth id)) ∧ Fr [] w w' := by
  refine (depth_any tb hi T id w h (g.good hn)).mono ?_
  rintro e w' ⟨d, rfl, hd, hF⟩
  refine ⟨?_, hF⟩
  by_cases h9 : id < 1000
  · rcases depthN_eq g hd 1000 (by omega) with h1 | ⟨h1, _⟩
    · unfold PT.depth
      rw [h1]
    · omega
  · have hno : ∀ x ∈ T.L, x.id ≠ id := by
      intro x hx he
      have := (g.lo x.pi (List.mem_map.2 ⟨x, hx, rfl⟩)).2
      have h2 : x.id < (T.pl.next : Int) := this
      have := g.next
      omega
    have hd' : d = -1 := by
      cases hd with
      | out _ => rfl
      | up hx _ => exact absurd rfl (hno _ hx)
    rw [hd']
    unfold PT.depth PT.depthN
    rw [of_pl_none hno]
def LiveQ (P : PT) := P.L.map (·.id)
theorem live_q (tb hi : Nat) (T : TreeD) (w : World) (h : TreeAt w tb hi T) : Calls Try.prog 48 #[.pointer (some ⟨tb, 0, none⟩)] w (IntsP (T.pl.L.map (·.id)) w) := by
  have e : T.pl.L.map (·.id) = T.L.map (·.id) := by
    show (T.L.map InsD.pi).map _ = _
    rw [List.map_map]
    rfl
  rw [e]
  exact live_any tb hi T w h
theorem children_q (tb hi : Nat) (T : TreeD) (id : Int) (w : World) (h : TreeAt w tb hi T) : Calls Try.prog 50 #[.pointer (some ⟨tb, 0, none⟩), .int .i64 id] w (IntsP ((T.pl.kids id (-1)).map (·.id)) w) := by
  have e : (T.pl.kids id (-1)).map (·.id) = (T.L.filter (isKid id (-1))).map (·.id) := by
    rw [← kids_pl, List.map_map]
    rfl
  rw [e]
  exact children_any tb hi T id w h
set_option maxHeartbeats 4000000 in
set_option maxRecDepth 100000 in
theorem act_any (tb hi : Nat) (T : TreeD) (k id at' : Int) (w : World) {n : Nat} (h : TreeAt w tb hi T) (g : GoodP T.pl n) (hn : n ≤ 900) (hhi : hi ≤ w.heap.size) :
    Calls Try.prog 60 #[.pointer (some ⟨tb, 0, none⟩), .agg #[.int .i64 k, .int .i64 id, .int .i64 at']] w (DoQ tb hi T w (actF T.pl k id at')) := by
  have hF := (Fr.refl [] w).alloc (.cells #[.int .i64 k, .int .i64 id, .int .i64 at'] 77)
  have F1 := Lib.hid hF
  have D1 := Lib.hid (do_pl tb hi T id at' _ (h.fr hF) g hn (Nat.le_trans hhi hF.size))
  have D2 := Lib.hid (end_pl tb hi T id _ (h.fr hF) g hn (Nat.le_trans hhi hF.size))
  have D3 := Lib.hid (tick_pl tb hi T _ (h.fr hF) g hn (Nat.le_trans hhi hF.size))
  have HH := Lib.hid h
  clear h g hhi hF
  go_enter Try.func60, Try.ntmps60
  by_cases h0 : k = 0
  · subst h0
    go_wp2_with fail
    refine D1.out.mono ?_
    rintro e w2 ⟨T', rfl, hp, hN⟩
    have HP := Lib.hid hp
    have HN := Lib.hid (hN.pre F1.out)
    clear hp hN D1 D2 D3
    go_wp2_with fail
    go_ret2
    exact ⟨T', rfl, HP.out, HN.out⟩
  by_cases h1 : k = 1
  · subst h1
    clear h0
    go_wp2_with fail
    refine D1.out.mono ?_
    rintro e w2 ⟨T', rfl, hp, hN⟩
    have HP := Lib.hid hp
    have HN := Lib.hid (hN.pre F1.out)
    clear hp hN D1 D2 D3
    go_wp2_with fail
    go_ret2
    exact ⟨T', rfl, HP.out, HN.out⟩
  by_cases h2 : k = 2
  · subst h2
    clear h0 h1
    go_wp2_with fail
    refine D2.out.mono ?_
    rintro e w2 ⟨T', rfl, hp, hN⟩
    have HP := Lib.hid hp
    have HN := Lib.hid (hN.pre F1.out)
    clear hp hN D1 D2 D3
    go_wp2_with fail
    go_ret2
    exact ⟨T', rfl, HP.out, HN.out⟩
  by_cases h3 : k = 3
  · subst h3
    clear h0 h1 h2
    go_wp2_with fail
    refine D3.out.mono ?_
    rintro e w2 ⟨T', rfl, hp, hN⟩
    have HP := Lib.hid hp
    have HN := Lib.hid (hN.pre F1.out)
    clear hp hN D1 D2 D3
    go_wp2_with fail
    go_ret2
    exact ⟨T', rfl, HP.out, HN.out⟩
  have b0 : (k == 0) = false := by simpa using h0
  have b1 : (k == 1) = false := by simpa using h1
  have b2 : (k == 2) = false := by simpa using h2
  have b3 : (k == 3) = false := by simpa using h3
  have e : actF T.pl k id at' = (-1, 0, T.pl) := by
    unfold actF
    rw [if_neg (by omega), if_neg h2, if_neg h3]
  rw [e]
  clear h0 h1 h2 h3 e D1 D2 D3
  go_wp2_with fail
  go_ret2
  exact ⟨T, rfl, rfl, .refl HH.out F1.out⟩
end Go.Proofs.Ytclkahggfdnpgaa

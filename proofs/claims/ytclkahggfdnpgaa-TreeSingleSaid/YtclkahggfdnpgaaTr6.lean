/- The tree: a marking, the slack, all done. -/
import Derived.Test.YtclkahggfdnpgaaTr5
import Derived.Test.YtclkahggfdnpgaaMk17
set_option linter.unusedVariables false
set_option linter.unusedSimpArgs false
namespace Go.Proofs.Ytclkahggfdnpgaa
open Go.RowKit
/-- An instance's marking. -/
def MarkingP (T : TreeD) (id : Int) (w : World) (e : Ending) (w' : World) : Prop :=
  (e = .returned (.tuple #[.slice none 0 0, .bool false]) ∧ (∀ x ∈ T.L, x.id ≠ id) ∧ Fr [] w w') ∨
  ∃ x ∈ T.L, x.id = id ∧ ∃ a c, e = .returned (.tuple #[.slice a x.m.length c, .bool true]) ∧ MarksAt w' a x.m.length x.m ∧ (∀ g o, 0 < x.m.length → a = some ⟨g, o, none⟩ → w.heap.size ≤ g) ∧ Fr [] w w'
theorem marks_len (x : MarkD) : x.cells.length = 3 := rfl
theorem marks_one (x : MarkD) : ∀ v ∈ x.cells, v.oneCell' = true := by
  intro v hv
  unfold MarkD.cells at hv
  simp only [List.mem_cons, List.not_mem_nil, or_false] at hv
  rcases hv with rfl | rfl | rfl <;> rfl
theorem marking_any (tb hi : Nat) (T : TreeD) (id : Int) (w : World) (h : TreeAt w tb hi T) (hg : Good T) :
    Calls Try.prog 58 #[.pointer (some ⟨tb, 0, none⟩), .int .i64 id] w (MarkingP T id w) := by
  have C1 := of_any tb hi T id w h
  have HH := Lib.hid h
  have HG := Lib.hid hg
  clear h hg
  go_enter Try.func58, Try.ntmps58
  go_wp2_with fail
  refine C1.mono ?_
  rintro e w1 ⟨v, rfl, hv, hF⟩
  have F1 := Lib.hid hF
  clear hF C1
  rcases hv with ⟨rfl, hv⟩ | ⟨j, hj, rfl, hid⟩
  · have HV := Lib.hid hv
    clear hv
    go_wp2_with fail
    go_ret2
    exact .inl ⟨rfl, HV.out, F1.out⟩
  · have hm := getD_memD T.L j hj
    generalize T.L.getD j default = x at hm hid ⊢
    have x2 : w1.cell? ⟨x.b, 2, none⟩ = some (.slice x.a x.m.length x.c) := cell_fr' (HH.out.cellI hm 2) F1.out
    have hM : MarksAt w1 x.a x.m.length x.m := (HH.out.mks x hm).fr F1.out
    have hl := HG.out.len hm
    have C2 := clone83_any x.a x.m.length x.c (fun i => (x.m.getD i default).cells) w1 (fun i => marks_len _) (fun i => marks_one _) (by omega) hM.2
    have HM := Lib.hid hm
    have HI := Lib.hid hid
    unfold InsD.ptr
    generalize hn : x.m.length = n at x2 C2 hl
    have HN := Lib.hid hn
    clear hm hid hM hn hj
    go_wp2_with fail
    refine C2.mono ?_
    rintro e w2 ⟨a, c, rfl, hr, hF2⟩
    have HR := Lib.hid hr
    have F2 := Lib.hid (F1.out.trans hF2 (by simp))
    clear hr hF2 C2
    go_wp2_with fail
    go_ret2
    exact .inr ⟨x, HM.out, HI.out, a, c, by rw [HN.out]; rfl, by rw [HN.out]; exact ⟨HN.out, HR.out.rows⟩, by
      rw [HN.out]
      intro g o h0 he
      obtain ⟨b', o', he', _, h1, _, _⟩ := HR.out.at_ h0
      rw [he] at he'
      cases he'
      exact Nat.le_trans F1.out.size h1, F2.out⟩
/-- How many ticks may come. -/
def slackT (Fs : List FlatD) (L : List InsD) : Int := L.foldl (fun n x => min n (slackI (Fs.getD x.tp default).en x.m)) 1048576
theorem slackT_succ (Fs : List FlatD) (L : List InsD) (j : Nat) (h : j < L.length) : slackT Fs (L.take (j + 1)) = min (slackT Fs (L.take j)) (slackI (Fs.getD (L.getD j default).tp default).en (L.getD j default).m) := by
  unfold slackT; rw [take_succD L j h, List.foldl_append]; rfl
theorem Good.gf {T : TreeD} (h : Good T) {x : InsD} (hx : x ∈ T.L) : T.Fs.getD x.tp default ∈ T.Fs := getD_memD _ _ (h.tp x hx)
theorem tslack_any (tb hi : Nat) (T : TreeD) (w : World) (h : TreeAt w tb hi T) (hg : Good T) :
    Calls Try.prog 54 #[.pointer (some ⟨tb, 0, none⟩)] w fun e w' => e = .returned (.int .i64 (slackT T.Fs T.L)) ∧ Fr [] w w' := by
  have hc2 : w.cell? ⟨tb, 2, none⟩ = some T.v := h.head.cell 2
  obtain ⟨a, c, hv, hlc, hp⟩ := h.vform
  have hfew := h.few
  have HH := Lib.hid h
  have HG := Lib.hid hg
  rw [hv] at hc2
  have HFU := Lib.hid (show T.L.take T.L.length = T.L from List.take_length)
  have HS := Lib.hid (fun j => slackT_succ T.Fs T.L j)
  generalize hn : T.L.length = n at hc2 hlc hp hfew HFU HS
  have HN := Lib.hid hn
  have HP := Lib.hid hp
  clear h hv hp hn hg
  go_enter Try.func54, Try.ntmps54
  go_wp2_with fail
  go_loopg [3, 11] n (fun k v i wr => ∃ (j : Nat), k = n - j ∧ j ≤ n ∧ i = .int .i64 j ∧ v = .int .i64 (slackT T.Fs (T.L.take j)) ∧ Fr [] w wr)
  case atStart => exact ⟨0, rfl, by omega, rfl, rfl, Fr.refl _ _⟩
  case round =>
    obtain ⟨j, rfl, hj, rfl, rfl, hF⟩ := hrel
    have F := Lib.hid hF
    clear hF
    by_cases hjn : j < n
    · have hd : decide (j < n) = true := by rw [decide_eq_true_iff]; omega
      have HY := Lib.hid (HS.out j hjn)
      obtain ⟨g, rfl, hc0, _, hg⟩ := HP.out j hjn
      have hm := getD_memD T.L j (by rw [HN.out]; exact hjn)
      have hc : wr.cell? ⟨g, j, none⟩ = some (T.L.getD j default).ptr := cell_fr' hc0 F.out
      obtain ⟨x, hx⟩ : ∃ x, T.L.getD j default = x := ⟨_, rfl⟩
      rw [hx] at hc hm HY
      have x2 : wr.cell? ⟨x.b, 2, none⟩ = some (.slice x.a x.m.length x.c) := cell_fr' (HH.out.cellI hm 2) F.out
      have hl := HG.out.len hm
      have hM : MarksAt wr x.a x.m.length x.m := (HH.out.mks x hm).fr F.out
      obtain ⟨f, hf⟩ : ∃ f, T.Fs.getD x.tp default = f := ⟨_, rfl⟩
      rw [hf] at HY
      have D1 := Lib.hid (flat_any tb hi T x f wr.drew (HH.out.fr (F.out.drewN 1)) hm (HG.out.tp x hm) hf)
      have D2 := Lib.hid (fun w' (hF : Fr [] wr.drew w') => slack_any f x.a x.m.length x.c x.m w' (hM.fr (((Fr.refl [] wr).drew).trans hF (by simp))) (by omega))
      have KP := Lib.hid (fun w' (hF : Fr [] wr.drew w') => cell_fr' x2 (((Fr.refl [] wr).drew).trans hF (by simp)))
      unfold InsD.ptr at D1 hc
      unfold FlatD.val at D1 D2
      have hs := slack_nn (HG.out.fit x hm)
      rw [hf] at hs
      generalize slackI f.en x.m = s at HY D2 hs
      generalize x.m.length = ml at x2 D2 KP hl
      obtain ⟨q, hq⟩ : ∃ q, slackT T.Fs (T.L.take j) = q := ⟨_, rfl⟩
      rw [hq] at HY ⊢
      clear hc0 hm hx hM hf hq
      go_wp2_with fail
      go_region_held_law (fun w' => w'.cell? ⟨x.b, 2, none⟩ = some (.slice x.a ml x.c)) (first | exact KP.out _ hF3 | exact KP.out _ (hF3.trans hF4 (by simp)) | go_keep) (first | (go_at_call 77; refine D1.out.mono ?_; rintro e w3 ⟨rfl, hF3⟩) | (go_at_call 22; refine (D2.out _ hF3).mono ?_; rintro e w4 ⟨rfl, hF4⟩))
      have F4 := Lib.hid (((F.out.drewN 1).trans hF3 (by simp)).trans hF4 (by simp))
      clear hF3 hF4
      go_wp2_with fail
      all_goals
        go_roundg (n - (j + 1))
        case measure => omega
        case rel => exact ⟨j + 1, rfl, by omega, rfl, by rw [HY.out]; congr 1; omega, F4.out⟩
    · have hd : decide (j < n) = false := by rw [decide_eq_false_iff_not]; omega
      obtain rfl : j = n := by omega
      go_wp2_with fail
      go_ret
      exact ⟨by rw [HFU.out]; rfl, F.out⟩
def doneT (Fs : List FlatD) (L : List InsD) : Bool := decide (L.length = 1) && accB (Fs.getD 0 default).en (L.getD 0 default).m
theorem done_any (tb hi : Nat) (T : TreeD) (w : World) (h : TreeAt w tb hi T) (hg : Good T) :
    Calls Try.prog 56 #[.pointer (some ⟨tb, 0, none⟩)] w fun e w' => e = .returned (.bool (doneT T.Fs T.L)) ∧ Fr [] w w' := by
  have hc2 : w.cell? ⟨tb, 2, none⟩ = some T.v := h.head.cell 2
  have hc0 : w.cell? ⟨tb, 0, none⟩ = some (.slice T.ta T.Fs.length T.tc) := h.head.cell 0
  obtain ⟨a, c, hv, hlc, hp⟩ := h.vform
  have hfew := h.few
  rw [hv] at hc2
  by_cases h1 : T.L.length = 1
  · obtain ⟨g, rfl, hc, _, hgl⟩ := hp 0 (by omega)
    have hm := getD_memD T.L 0 (by omega)
    obtain ⟨x0, r, hL, _h1, _h2, _h3, htp⟩ := hg.root
    have htp' : (T.L.getD 0 default).tp = 0 := by rw [hL]; exact htp
    have hlen := hg.tp _ hm
    rw [htp'] at hlen
    have hdn : doneT T.Fs T.L = accB (T.Fs.getD 0 default).en (T.L.getD 0 default).m := by unfold doneT; rw [decide_eq_true h1, Bool.true_and]
    rw [hdn]
    rw [h1] at hc2
    generalize T.L.getD 0 default = x at hc hm
    have x2 : w.cell? ⟨x.b, 2, none⟩ = some (.slice x.a x.m.length x.c) := h.cellI hm 2
    have hl := hg.len hm
    have hM : MarksAt w x.a x.m.length x.m := h.mks x hm
    obtain ⟨f, hf⟩ : ∃ f, T.Fs.getD 0 default = f := ⟨_, rfl⟩
    obtain ⟨gt, ot, ha, hgt, _, _, hct⟩ := h.tmpl.rows.at_ (by omega)
    have y0 : w.cell? ⟨gt, ot, none⟩ = some (.slice f.ea f.en f.ec) := by have := hct 0 hlen 0 (.slice f.ea f.en f.ec) (by rw [hf]; rfl); simpa using this
    have y1 : w.cell? ⟨gt, ot + 1, none⟩ = some (.slice f.ta f.tn f.tc) := by have := hct 0 hlen 1 (.slice f.ta f.tn f.tc) (by rw [hf]; rfl); simpa using this
    rw [ha] at hc0
    rw [hf]
    have D2 := Lib.hid (acc_any f x.a x.m.length x.c x.m w.drew (hM.fr ((Fr.refl [] w).drew)) (by omega))
    unfold InsD.ptr at hc
    unfold FlatD.val at D2
    generalize accB f.en x.m = r at D2
    generalize x.m.length = ml at x2 D2 hl
    generalize T.Fs.length = nt at hc0 hlen
    clear hp hlc hv h hg hM hct hf ha hL htp htp' hdn hm h1
    go_enter Try.func56, Try.ntmps56
    go_wp2_with fail
    go_region_held_law (fun w' => w'.cell? ⟨tb, 2, none⟩ = some (.slice (some ⟨g, 0, none⟩) 1 c) ∧ w'.cell? ⟨tb, 0, none⟩ = some (.slice (some ⟨gt, ot, none⟩) nt T.tc) ∧ w'.cell? ⟨g, 0, none⟩ = some (.pointer (some ⟨x.b, 0, none⟩)) ∧ w'.cell? ⟨x.b, 2, none⟩ = some (.slice x.a ml x.c) ∧ w'.cell? ⟨gt, ot, none⟩ = some (.slice f.ea f.en f.ec) ∧ w'.cell? ⟨gt, ot + 1, none⟩ = some (.slice f.ta f.tn f.tc)) (first | exact ⟨cell_fr' hc2 (((Fr.refl [] w).drew).trans hF3 (by simp)), cell_fr' hc0 (((Fr.refl [] w).drew).trans hF3 (by simp)), cell_fr' hc (((Fr.refl [] w).drew).trans hF3 (by simp)), cell_fr' x2 (((Fr.refl [] w).drew).trans hF3 (by simp)), cell_fr' y0 (((Fr.refl [] w).drew).trans hF3 (by simp)), cell_fr' y1 (((Fr.refl [] w).drew).trans hF3 (by simp))⟩ | go_keep) (first | (go_at_call 24; refine D2.out.mono ?_; rintro e w3 ⟨rfl, hF3⟩))
    have F4 := Lib.hid (((Fr.refl [] w).drewN 1).trans hF3 (by simp))
    clear hF3
    go_wp2_with fail
    go_ret
    exact ⟨rfl, F4.out⟩
  · have hdn : doneT T.Fs T.L = false := by unfold doneT; rw [decide_eq_false h1, Bool.false_and]
    rw [hdn]
    have hd1 : ((T.L.length : Int) == 1) = false := by simpa using (by omega : ¬ (T.L.length : Int) = 1)
    generalize T.L.length = n at hc2 hd1 hlc hfew
    clear hp hdn h1 hv h hg
    go_enter Try.func56, Try.ntmps56
    go_wp2_with fail
    go_quiet (fail)
    go_wp2_with fail
    go_ret
    exact ⟨rfl, (Fr.refl [] w).drewN _⟩
end Go.Proofs.Ytclkahggfdnpgaa

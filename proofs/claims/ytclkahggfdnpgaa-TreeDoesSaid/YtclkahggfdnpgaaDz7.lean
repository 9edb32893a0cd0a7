/- Parts of the proof: Tr6, RegL. (Merged by pack.py.) -/
import Derived.Test.YtclkahggfdnpgaaDz6
import Derived.Deep.RegionHeld
import Derived.StillTail
set_option linter.unusedVariables false
set_option linter.unusedSimpArgs false
namespace Go.Proofs.Ytclkahggfdnpgaa
open Go.RowKit
/-- An instance's marking. -/
def MarkingP (T : TreeD) (id : Int) (w : World) (e : Ending) (w' : World) : Prop :=
  (e = .returned (.tuple #[.slice none 0 0, .bool false]) ∧ (∀ x ∈ T.L, x.id ≠ id) ∧ Fr [] w w') ∨
  ∃ x ∈ T.L, x.id = id ∧ ∃ a c, e = .returned (.tuple #[.slice a x.m.length c, .bool true]) ∧ MarksAt w' a x.m.length x.m ∧ (∀ g o, 0 < x.m.length → a = some ⟨g, o, none⟩ → w.heap.size ≤ g) ∧ Fr [] w w'
theorem marks_len (x : MarkD) : x.cells.length = 3 := rfl
theorem marks_one (x : MarkD) : ∀ v ∈ x.cells, v.oneCell' = true := by
  intro v hv
  unfold MarkD.cells at hv
  simp only [List.mem_cons, List.not_mem_nil, or_false] at hv
  rcases hv with rfl | rfl | rfl <;> rfl
theorem marking_any (tb hi : Nat) (T : TreeD) (id : Int) (w : World) (h : TreeAt w tb hi T) (hg : Good T) :
    Calls Try.prog 58 #[.pointer (some ⟨tb, 0, none⟩), .int .i64 id] w (MarkingP T id w) := by
  have C1 := of_any tb hi T id w h
  have HH := Lib.hid h
  have HG := Lib.hid hg
  clear h hg
  go_enter Try.func58, Try.ntmps58
  go_wp2_with fail
  refine C1.mono ?_
  rintro e w1 ⟨v, rfl, hv, hF⟩
  have F1 := Lib.hid hF
  clear hF C1
  rcases hv with ⟨rfl, hv⟩ | ⟨j, hj, rfl, hid⟩
  · have HV := Lib.hid hv
    clear hv
    go_wp2_with fail
    go_ret2
    exact .inl ⟨rfl, HV.out, F1.out⟩
  · have hm := getD_memD T.L j hj
    generalize T.L.getD j default = x at hm hid ⊢
    have x2 : w1.cell? ⟨x.b, 2, none⟩ = some (.slice x.a x.m.length x.c) := cell_fr' (HH.out.cellI hm 2) F1.out
    have hM : MarksAt w1 x.a x.m.length x.m := (HH.out.mks x hm).fr F1.out
    have hl := HG.out.len hm
    have C2 := clone83_any x.a x.m.length x.c (fun i => (x.m.getD i default).cells) w1 (fun i => marks_len _) (fun i => marks_one _) (by omega) hM.2
    have HM := Lib.hid hm
    have HI := Lib.hid hid
    unfold InsD.ptr
    generalize hn : x.m.length = n at x2 C2 hl
    have HN := Lib.hid hn
    clear hm hid hM hn hj
    go_wp2_with fail
    refine C2.mono ?_
    rintro e w2 ⟨a, c, rfl, hr, hF2⟩
    have HR := Lib.hid hr
    have F2 := Lib.hid (F1.out.trans hF2 (by simp))
    clear hr hF2 C2
    go_wp2_with fail
    go_ret2
    exact .inr ⟨x, HM.out, HI.out, a, c, by rw [HN.out]; rfl, by rw [HN.out]; exact ⟨HN.out, HR.out.rows⟩, by
      rw [HN.out]
      intro g o h0 he
      obtain ⟨b', o', he', _, h1, _, _⟩ := HR.out.at_ h0
      rw [he] at he'
      cases he'
      exact Nat.le_trans F1.out.size h1, F2.out⟩
/-- How many ticks may come. -/
def slackT (Fs : List FlatD) (L : List InsD) : Int := L.foldl (fun n x => min n (slackI (Fs.getD x.tp default).en x.m)) 1048576
theorem slackT_succ (Fs : List FlatD) (L : List InsD) (j : Nat) (h : j < L.length) : slackT Fs (L.take (j + 1)) = min (slackT Fs (L.take j)) (slackI (Fs.getD (L.getD j default).tp default).en (L.getD j default).m) := by
  unfold slackT; rw [take_succD L j h, List.foldl_append]; rfl
theorem Good.gf {T : TreeD} (h : Good T) {x : InsD} (hx : x ∈ T.L) : T.Fs.getD x.tp default ∈ T.Fs := getD_memD _ _ (h.tp x hx)
theorem tslack_any (tb hi : Nat) (T : TreeD) (w : World) (h : TreeAt w tb hi T) (hg : Good T) :
    Calls Try.prog 54 #[.pointer (some ⟨tb, 0, none⟩)] w fun e w' => e = .returned (.int .i64 (slackT T.Fs T.L)) ∧ Fr [] w w' := by
  have hc2 : w.cell? ⟨tb, 2, none⟩ = some T.v := h.head.cell 2
  obtain ⟨a, c, hv, hlc, hp⟩ := h.vform
  have hfew := h.few
  have HH := Lib.hid h
  have HG := Lib.hid hg
  rw [hv] at hc2
  have HFU := Lib.hid (show T.L.take T.L.length = T.L from List.take_length)
  have HS := Lib.hid (fun j => slackT_succ T.Fs T.L j)
  generalize hn : T.L.length = n at hc2 hlc hp hfew HFU HS
  have HN := Lib.hid hn
  have HP := Lib.hid hp
  clear h hv hp hn hg
  go_enter Try.func54, Try.ntmps54
  go_wp2_with fail
  go_loopg [3, 11] n (fun k v i wr => ∃ (j : Nat), k = n - j ∧ j ≤ n ∧ i = .int .i64 j ∧ v = .int .i64 (slackT T.Fs (T.L.take j)) ∧ Fr [] w wr)
  case atStart => exact ⟨0, rfl, by omega, rfl, rfl, Fr.refl _ _⟩
  case round =>
    obtain ⟨j, rfl, hj, rfl, rfl, hF⟩ := hrel
    have F := Lib.hid hF
    clear hF
    by_cases hjn : j < n
    · have hd : decide (j < n) = true := by rw [decide_eq_true_iff]; omega
      have HY := Lib.hid (HS.out j hjn)
      obtain ⟨g, rfl, hc0, _, hg⟩ := HP.out j hjn
      have hm := getD_memD T.L j (by rw [HN.out]; exact hjn)
      have hc : wr.cell? ⟨g, j, none⟩ = some (T.L.getD j default).ptr := cell_fr' hc0 F.out
      obtain ⟨x, hx⟩ : ∃ x, T.L.getD j default = x := ⟨_, rfl⟩
      rw [hx] at hc hm HY
      have x2 : wr.cell? ⟨x.b, 2, none⟩ = some (.slice x.a x.m.length x.c) := cell_fr' (HH.out.cellI hm 2) F.out
      have hl := HG.out.len hm
      have hM : MarksAt wr x.a x.m.length x.m := (HH.out.mks x hm).fr F.out
      obtain ⟨f, hf⟩ : ∃ f, T.Fs.getD x.tp default = f := ⟨_, rfl⟩
      rw [hf] at HY
      have D1 := Lib.hid (flat_any tb hi T x f wr.drew (HH.out.fr (F.out.drewN 1)) hm (HG.out.tp x hm) hf)
      have D2 := Lib.hid (fun w' (hF : Fr [] wr.drew w') => slack_any f x.a x.m.length x.c x.m w' (hM.fr (((Fr.refl [] wr).drew).trans hF (by simp))) (by omega))
      have KP := Lib.hid (fun w' (hF : Fr [] wr.drew w') => cell_fr' x2 (((Fr.refl [] wr).drew).trans hF (by simp)))
      unfold InsD.ptr at D1 hc
      unfold FlatD.val at D1 D2
      have hs := slack_nn (HG.out.fit x hm)
      rw [hf] at hs
      generalize slackI f.en x.m = s at HY D2 hs
      generalize x.m.length = ml at x2 D2 KP hl
      obtain ⟨q, hq⟩ : ∃ q, slackT T.Fs (T.L.take j) = q := ⟨_, rfl⟩
      rw [hq] at HY ⊢
      clear hc0 hm hx hM hf hq
      go_wp2_with fail
      go_region_held_law (fun w' => w'.cell? ⟨x.b, 2, none⟩ = some (.slice x.a ml x.c)) (first | exact KP.out _ hF3 | exact KP.out _ (hF3.trans hF4 (by simp)) | go_keep) (first | (go_at_call 77; refine D1.out.mono ?_; rintro e w3 ⟨rfl, hF3⟩) | (go_at_call 22; refine (D2.out _ hF3).mono ?_; rintro e w4 ⟨rfl, hF4⟩))
      have F4 := Lib.hid (((F.out.drewN 1).trans hF3 (by simp)).trans hF4 (by simp))
      clear hF3 hF4
      go_wp2_with fail
      all_goals
        go_roundg (n - (j + 1))
        case measure => omega
        case rel => exact ⟨j + 1, rfl, by omega, rfl, by rw [HY.out]; congr 1; omega, F4.out⟩
    · have hd : decide (j < n) = false := by rw [decide_eq_false_iff_not]; omega
      obtain rfl : j = n := by omega
      go_wp2_with fail
      go_ret
      exact ⟨by rw [HFU.out]; rfl, F.out⟩
def doneT (Fs : List FlatD) (L : List InsD) : Bool := decide (L.length = 1) && accB (Fs.getD 0 default).en (L.getD 0 default).m
theorem done_any (tb hi : Nat) (T : TreeD) (w : World) (h : TreeAt w tb hi T) (hg : Good T) :
    Calls Try.prog 56 #[.pointer (some ⟨tb, 0, none⟩)] w fun e w' => e = .returned (.bool (doneT T.Fs T.L)) ∧ Fr [] w w' := by
  have hc2 : w.cell? ⟨tb, 2, none⟩ = some T.v := h.head.cell 2
  have hc0 : w.cell? ⟨tb, 0, none⟩ = some (.slice T.ta T.Fs.length T.tc) := h.head.cell 0
  obtain ⟨a, c, hv, hlc, hp⟩ := h.vform
  have hfew := h.few
  rw [hv] at hc2
  by_cases h1 : T.L.length = 1
  · obtain ⟨g, rfl, hc, _, hgl⟩ := hp 0 (by omega)
    have hm := getD_memD T.L 0 (by omega)
    obtain ⟨x0, r, hL, _h1, _h2, _h3, htp⟩ := hg.root
    have htp' : (T.L.getD 0 default).tp = 0 := by rw [hL]; exact htp
    have hlen := hg.tp _ hm
    rw [htp'] at hlen
    have hdn : doneT T.Fs T.L = accB (T.Fs.getD 0 default).en (T.L.getD 0 default).m := by unfold doneT; rw [decide_eq_true h1, Bool.true_and]
    rw [hdn]
    rw [h1] at hc2
    generalize T.L.getD 0 default = x at hc hm
    have x2 : w.cell? ⟨x.b, 2, none⟩ = some (.slice x.a x.m.length x.c) := h.cellI hm 2
    have hl := hg.len hm
    have hM : MarksAt w x.a x.m.length x.m := h.mks x hm
    obtain ⟨f, hf⟩ : ∃ f, T.Fs.getD 0 default = f := ⟨_, rfl⟩
    obtain ⟨gt, ot, ha, hgt, _, _, hct⟩ := h.tmpl.rows.at_ (by omega)
    have y0 : w.cell? ⟨gt, ot, none⟩ = some (.slice f.ea f.en f.ec) := by have := hct 0 hlen 0 (.slice f.ea f.en f.ec) (by rw [hf]; rfl); simpa using this
    have y1 : w.cell? ⟨gt, ot + 1, none⟩ = some (.slice f.ta f.tn f.tc) := by have := hct 0 hlen 1 (.slice f.ta f.tn f.tc) (by rw [hf]; rfl); simpa using this
    rw [ha] at hc0
    rw [hf]
    have D2 := Lib.hid (acc_any f x.a x.m.length x.c x.m w.drew (hM.fr ((Fr.refl [] w).drew)) (by omega))
    unfold InsD.ptr at hc
    unfold FlatD.val at D2
    generalize accB f.en x.m = r at D2
    generalize x.m.length = ml at x2 D2 hl
    generalize T.Fs.length = nt at hc0 hlen
    clear hp hlc hv h hg hM hct hf ha hL htp htp' hdn hm h1
    go_enter Try.func56, Try.ntmps56
    go_wp2_with fail
    go_region_held_law (fun w' => w'.cell? ⟨tb, 2, none⟩ = some (.slice (some ⟨g, 0, none⟩) 1 c) ∧ w'.cell? ⟨tb, 0, none⟩ = some (.slice (some ⟨gt, ot, none⟩) nt T.tc) ∧ w'.cell? ⟨g, 0, none⟩ = some (.pointer (some ⟨x.b, 0, none⟩)) ∧ w'.cell? ⟨x.b, 2, none⟩ = some (.slice x.a ml x.c) ∧ w'.cell? ⟨gt, ot, none⟩ = some (.slice f.ea f.en f.ec) ∧ w'.cell? ⟨gt, ot + 1, none⟩ = some (.slice f.ta f.tn f.tc)) (first | exact ⟨cell_fr' hc2 (((Fr.refl [] w).drew).trans hF3 (by simp)), cell_fr' hc0 (((Fr.refl [] w).drew).trans hF3 (by simp)), cell_fr' hc (((Fr.refl [] w).drew).trans hF3 (by simp)), cell_fr' x2 (((Fr.refl [] w).drew).trans hF3 (by simp)), cell_fr' y0 (((Fr.refl [] w).drew).trans hF3 (by simp)), cell_fr' y1 (((Fr.refl [] w).drew).trans hF3 (by simp))⟩ | go_keep) (first | (go_at_call 24; refine D2.out.mono ?_; rintro e w3 ⟨rfl, hF3⟩))
    have F4 := Lib.hid (((Fr.refl [] w).drewN 1).trans hF3 (by simp))
    clear hF3
    go_wp2_with fail
    go_ret
    exact ⟨rfl, F4.out⟩
  · have hdn : doneT T.Fs T.L = false := by unfold doneT; rw [decide_eq_false h1, Bool.false_and]
    rw [hdn]
    have hd1 : ((T.L.length : Int) == 1) = false := by simpa using (by omega : ¬ (T.L.length : Int) = 1)
    generalize T.L.length = n at hc2 hd1 hlc hfew
    clear hp hdn h1 hv h hg
    go_enter Try.func56, Try.ntmps56
    go_wp2_with fail
    go_quiet (fail)
    go_wp2_with fail
    go_ret
    exact ⟨rfl, (Fr.refl [] w).drewN _⟩
end Go.Proofs.Ytclkahggfdnpgaa

namespace Go.Proofs.Ytclkahggfdnpgaa
section
variable {P : Program} {ops : Array Oper} {Q : Exit → Act → World → Prop} {md : Region.Mode} {S : World → Prop} {last : Nat}
/-- Whatever order is picked; S holds behind every operation but the last. -/
def wpAnyL (P : Program) (md : Region.Mode) (ops : Array Oper) (Q : Exit → Act → World → Prop) (S : World → Prop) (last : Nat) : Nat → Array Bool → Act → World → Prop
  | 0, listed, a, w => Region.ready md ops listed = [] ∧ Q .normal a w
  | n + 1, listed, a, w =>
    (Region.ready md ops listed = [] → Q .normal a w) ∧
    ∀ i ∈ Region.ready md ops listed, wpOp P ops Q i (fun a' w' => (i ≠ last → S w') ∧ wpAnyL P md ops Q S last n (listed.setIfInBounds i true) a' w') a w
theorem wpAnyL.any : ∀ (n : Nat) (listed : Array Bool) (a : Act) (w : World), wpAnyL P md ops Q S last n listed a w → wpAny P md ops Q n listed a w
  | 0, _, _, _, h => h
  | n + 1, _, _, _, h => ⟨h.1, fun i hi => wpOp_mono (fun _ _ h' => wpAnyL.any n _ _ _ h'.2) (h.2 i hi)⟩
theorem wp_region_last {id : Nat} {a : Act} {w : World} (last : Nat) (hm : P.follows .mixedOrders = true) (hS : S w.drew)
    (h : S w.drew → wpAnyL P .any ops Q S last ops.size (Array.replicate ops.size false) a w.drew) : (Code.region id ops true).wp P Q a w :=
  wp_region_any hm (wpAnyL.any _ _ _ _ (h hS))
theorem wpAnyL_first {i : Nat} {oi : Oper} {v : Value} (hi : ops[i]? = some oi) (hsel : ∀ (j : Nat) (o : Oper) cs b, ops[j]? = some o → o.op ≠ .select cs b)
    (hQ : ∀ c a w, Q (.panic c) (a.put oi.dst v) w → Q (.panic c) a w) (hil : i ≠ last) (hwl : Region.waitsFor md ops last i = true) :
    ∀ (n : Nat) (listed : Array Bool) (a : Act) (w : World),
      (∀ j oj, ops[j]? = some oj → j ≠ i → listed.getD j true = false → (∀ e ∈ oj.after, Region.binds md e = true → e.on ≠ i) → oi.apart ops oj = true) →
      i ∈ Region.ready md ops listed → YieldsIf P ops S oi v a → S w →
      wpAnyL P md ops Q S last n (listed.setIfInBounds i true) (a.put oi.dst v) w → wpAnyL P md ops Q S last (n + 1) listed a w := by
  have waits : ∀ (listed : Array Bool) (j : Nat), j ∈ Region.ready md ops listed → i ∈ Region.ready md ops listed → ∀ oj, ops[j]? = some oj → ∀ e ∈ oj.after, Region.binds md e = true → e.on ≠ i := by
    intro listed j hj hr oj hoj e he hb heq
    obtain ⟨_, oj', hoj', hall⟩ := mem_ready.1 hj
    rw [hoj] at hoj'
    cases hoj'
    have h1 := hall e he hb
    have h0 := (mem_ready.1 hr).1
    rw [heq] at h1
    rcases Nat.lt_or_ge i listed.size with h' | h'
    · simp [h'] at h0 h1
      rw [h0] at h1
      cases h1
    · simp [Array.getElem?_eq_none h'] at h1
  have notlast : ∀ (listed : Array Bool) (j : Nat), j ∈ Region.ready md ops listed → i ∈ Region.ready md ops listed → j ≠ last := by
    intro listed j hj hr hjl
    subst hjl
    obtain ⟨oj, hoj, e, he, hb, heq⟩ := Region.waitsFor_spec hwl
    exact waits listed j hj hr oj hoj e he hb heq
  intro n
  induction n with
  | zero =>
    intro listed a w _ hr hy hS H
    refine ⟨fun h => (by rw [h] at hr; cases hr), fun j hj => ?_⟩
    by_cases hji : j = i
    · subst hji
      exact hy.wpOp hi hS ⟨fun _ => hS, H⟩
    · have := ready_mono hj hji
      rw [H.1] at this
      cases this
  | succ n ih =>
    intro listed a w hfree hr hy hS H
    refine ⟨fun h => (by rw [h] at hr; cases hr), fun j hj => ?_⟩
    by_cases hji : j = i
    · subst hji
      exact hy.wpOp hi hS ⟨fun _ => hS, H⟩
    · have hjl := notlast listed j hj hr
      have h1 := H.2 j (ready_mono hj hji)
      obtain ⟨hjun, oj, hoj, _⟩ := mem_ready.1 hj
      have h2 := wpOp_putIf hoj (hfree j oj hoj hji hjun (waits listed j hj hr oj hoj)) (fun cs b => hsel i oi cs b hi) (fun cs b => hsel j oj cs b hoj) hQ hy h1
      refine wpOp_mono (fun a' w' h3 => ⟨h3.2.1, ih (listed.setIfInBounds j true) a' w' ?_ (ready_mono hr (Ne.symm hji)) h3.1 (h3.2.1 hjl) ?_⟩) h2
      · intro k ok hk hki hun hno
        refine hfree k ok hk hki ?_ hno
        by_cases hjk : j = k
        · subst hjk; exact hjun
        · rw [getD_set_ne true hjk] at hun; exact hun
      · rw [Array.setIfInBounds_comm _ _ hji]
        exact h3.2.2
theorem wpAnyL_take {i : Nat} {oi : Oper} {v : Value} {n : Nat} {listed : Array Bool} {a : Act} {w : World} (hi : ops[i]? = some oi)
    (hs : Region.noSelect ops = true) (hf : Region.free md ops listed i = true) (hr : (Region.ready md ops listed).contains i = true) (hl : (decide (i ≠ last) && Region.waitsFor md ops last i) = true)
    (hQ : ∀ c a w, Q (.panic c) (a.put oi.dst v) w → Q (.panic c) a w) (hy : YieldsIf P ops S oi v a) (hS : S w)
    (h : wpAnyL P md ops Q S last n (listed.setIfInBounds i true) (a.put oi.dst v) w) : wpAnyL P md ops Q S last (n + 1) listed a w := by
  rw [Bool.and_eq_true, decide_eq_true_iff] at hl
  exact wpAnyL_first hi (Region.noSelect_spec hs) hQ hl.1 hl.2 n listed a w (Region.free_spec hi hf) (by simpa using hr) hy hS h
def AllReadyL (P : Program) (md : Region.Mode) (ops : Array Oper) (Q : Exit → Act → World → Prop) (S : World → Prop) (last n : Nat) (listed : Array Bool) (a : Act) (w : World) (rs : List Nat) : Prop :=
  ∀ i ∈ rs, wpOp P ops Q i (fun a' w' => (i ≠ last → S w') ∧ wpAnyL P md ops Q S last n (listed.setIfInBounds i true) a' w') a w
theorem AllReadyL.nil {n : Nat} {listed : Array Bool} {a : Act} {w : World} : AllReadyL P md ops Q S last n listed a w [] := fun _ h => by cases h
theorem AllReadyL.cons {n : Nat} {listed : Array Bool} {a : Act} {w : World} {i : Nat} {o : Oper} {rs : List Nat} (ho : ops[i]? = some o)
    (h : ∀ K' : Act → World → Prop, Shut (∀ a w, S w → (S w → wpAnyL P md ops Q S last n (listed.setIfInBounds i true) a w) → K' a w) → if Region.wanted o (yielded ops a.tmps) = true then Oper.wp P o a w K' Q else K' (a.put o.dst undef) w)
    (hs : AllReadyL P md ops Q S last n listed a w rs) : AllReadyL P md ops Q S last n listed a w (i :: rs) := fun j hj => by
  rcases List.mem_cons.1 hj with rfl | hj
  · exact wpOp_step ho (fun K' hK => h K' (fun a w hS hW => hK a w ⟨fun _ => hS, hW hS⟩))
  · exact hs j hj
theorem AllReadyL.end_ {n : Nat} {listed : Array Bool} {a : Act} {w : World} {o : Oper} (ho : ops[last]? = some o)
    (h : ∀ K' : Act → World → Prop, Shut (∀ a w, wpAnyL P md ops Q S last n (listed.setIfInBounds last true) a w → K' a w) → if Region.wanted o (yielded ops a.tmps) = true then Oper.wp P o a w K' Q else K' (a.put o.dst undef) w) : AllReadyL P md ops Q S last n listed a w [last] := fun j hj => by
  obtain rfl := List.mem_singleton.1 hj
  exact wpOp_step ho (fun K' hK => h K' (fun a w hW => hK a w ⟨fun hne => absurd rfl hne, hW⟩))
theorem wpAnyL_ready {rs : List Nat} {n : Nat} {listed : Array Bool} {a : Act} {w : World} (hr : Region.ready md ops listed = rs) (hne : rs ≠ [])
    (h : AllReadyL P md ops Q S last n listed a w rs) : wpAnyL P md ops Q S last (n + 1) listed a w :=
  ⟨fun h0 => absurd (hr ▸ h0) hne, hr ▸ h⟩
theorem wpAnyL_done {listed : Array Bool} {a : Act} {w : World} (hr : Region.ready md ops listed = []) (h : Q .normal a w) : ∀ n, wpAnyL P md ops Q S last n listed a w
  | 0 => ⟨hr, h⟩
  | _ + 1 => ⟨fun _ => h, by rw [hr]; simp⟩
end
end Go.Proofs.Ytclkahggfdnpgaa

/- Parts of the proof: Rt11, Rt12, Rt13. (Merged by pack.py.) -/
import Derived.Test.YtclkahggfdnpgaaDz26
set_option linter.unusedVariables false
set_option linter.unusedSimpArgs false
namespace Go.Proofs.Ytclkahggfdnpgaa
open Go.RowKit
def ProgD.foot (p : ProgD) (g : Nat) : Prop :=
  Holds p.pa p.Fs.length g ∨ (∃ f ∈ p.Fs, Holds f.ea f.en g ∨ Holds f.ta f.tn g) ∨ Holds p.ca p.Cs.length g
theorem ProgAt.foot_lt {w : World} {p : ProgD} (h : ProgAt w p) {g : Nat} (hg : p.foot g) : g < w.heap.size := by
  rcases hg with hg | ⟨f, hf, hg | hg⟩ | hg
  · exact h.rows.holds hg
  · exact (h.flats f hf).evs.2.holds hg
  · exact (h.flats f hf).ties.2.holds hg
  · exact h.calls.holds hg
theorem own_one {w : World} {g : Nat} {C : List Value} (h : Row w g C 125) (hl : C.length = 5) : w.ownsRow 0 125 5 (.slice (some ⟨g, 0, none⟩) 1 1) 1 C :=
  ⟨by omega, .inr ⟨g, 1, C.toArray, rfl, Nat.zero_le _, h, Nat.le_refl _, by decide, by simp; omega, List.take_of_length_le (by show C.length ≤ 1 * 5; omega)⟩⟩
/-- The document's tree as New makes it. -/
def ProgD.ref (p : ProgD) (s : Nat) (x : RND) : RefD := ⟨p.pa, p.pc, p.Fs, p.ca, p.cc, p.Cs, .slice (some ⟨s, 0, none⟩) 1 1, [x]⟩
theorem rnew_fin {p : ProgD} {w w2 : World} {a : Option Addr} {c : Nat} {M : List MarkD} (h : ProgAt w p) (uq : UniqC p.Cs) (en : ∀ f ∈ p.Fs, f.en ≤ 10) (f2 : Fr [] w w2) (hm : MarksAt w2 a M.length M) (ha : ∀ g, Holds a M.length g → w.heap.size ≤ g ∧ g < w2.heap.size) (hM : (p.Fs.getD 0 default).E.map startM = M) :
    ∃ R, RefAt ((w2.alloc (.cells #[.bool true, .int .i64 0, .int .i64 (-1), .int .i64 (-1), .slice a M.length c] 125)).alloc (.cells #[.slice p.pa p.Fs.length p.pc, .slice p.ca p.Cs.length p.cc, .slice (some ⟨w2.heap.size, 0, none⟩) 1 1] 90)) (w2.heap.size + 1) R ∧ R.pl = newPT p.Fs p.Cs ∧ R.Cs = p.Cs ∧ (∀ y ∈ R.blocks (w2.heap.size + 1), w.heap.size ≤ y) ∧ (∀ g, R.foot g → p.foot g ∨ w.heap.size ≤ g) := by
  obtain ⟨x, hx⟩ : ∃ x : RND, x = ⟨true, 0, -1, -1, a, c, M⟩ := ⟨_, rfl⟩
  obtain ⟨wa, hwa⟩ : ∃ v, w2.alloc (.cells #[.bool true, .int .i64 0, .int .i64 (-1), .int .i64 (-1), .slice a M.length c] 125) = v := ⟨_, rfl⟩
  have hrow : Row wa w2.heap.size x.cells 125 := by rw [← hwa, hx]; exact Row.new w2 (RND.cells ⟨true, 0, -1, -1, a, c, M⟩) 125
  have hsz : wa.heap.size = w2.heap.size + 1 := by rw [← hwa]; simp
  have fa : Fr [] w2 wa := by rw [← hwa]; exact (Fr.refl [] w2).alloc _
  rw [hwa]
  obtain ⟨wb, hwb⟩ : ∃ v, wa.alloc (.cells #[.slice p.pa p.Fs.length p.pc, .slice p.ca p.Cs.length p.cc, .slice (some ⟨w2.heap.size, 0, none⟩) 1 1] 90) = v := ⟨_, rfl⟩
  have hhead : Row wb (w2.heap.size + 1) [.slice p.pa p.Fs.length p.pc, .slice p.ca p.Cs.length p.cc, .slice (some ⟨w2.heap.size, 0, none⟩) 1 1] 90 := by rw [← hwb, ← hsz]; exact Row.new wa _ 90
  have fb : Fr [] wa wb := by rw [← hwb]; exact (Fr.refl [] wa).alloc _
  rw [hwb]
  have f3 : Fr [] w wb := (f2.trans fa (by simp)).trans fb (by simp)
  have hws := f2.size
  have hbl : ∀ y ∈ (p.ref w2.heap.size x).blocks (w2.heap.size + 1), w2.heap.size ≤ y := fun y hy => by
    rcases List.mem_cons.1 hy with rfl | hy
    · omega
    · have : y ∈ (some w2.heap.size).toList := hy
      simp at this
      omega
  have hft : ∀ g, (p.ref w2.heap.size x).foot g → (p.foot g ∨ w.heap.size ≤ g) ∧ g < w2.heap.size := by
    intro g hg
    rcases hg with hg | hg | hg | ⟨y, hy, hg⟩
    · exact ⟨.inl (.inl hg), Nat.lt_of_lt_of_le (h.foot_lt (.inl hg)) hws⟩
    · exact ⟨.inl (.inr (.inl hg)), Nat.lt_of_lt_of_le (h.foot_lt (.inr (.inl hg))) hws⟩
    · exact ⟨.inl (.inr (.inr hg)), Nat.lt_of_lt_of_le (h.foot_lt (.inr (.inr hg))) hws⟩
    · obtain rfl := List.mem_singleton.1 hy
      rw [hx] at hg
      have := ha g hg
      exact ⟨.inr this.1, this.2⟩
  refine ⟨p.ref w2.heap.size x, ⟨hhead, h.rows.fr f3, fun f hf => (h.flats f hf).fr f3, h.calls.fr f3, ?_, ?_, fun g hg hb => ?_, ?_, by show (1 : Nat) ≤ 900; omega, en, uq, h.few2⟩, ?_, rfl, fun y hy => Nat.le_trans hws (hbl y hy), fun g hg => (hft g hg).1⟩
  · have := own_frS (own_one hrow (rnd_len x)) fb (by simp)
    have e : flatC (p.ref w2.heap.size x).cs 1 = x.cells := by
      show [] ++ x.cells = x.cells
      rw [List.nil_append]
    show wb.ownsRow 0 125 5 _ 1 (flatC (p.ref w2.heap.size x).cs 1)
    rw [e]
    exact this
  · intro y hy
    obtain rfl := List.mem_singleton.1 hy
    rw [hx]
    exact hm.fr (fa.trans fb (by simp))
  · have := (hft g hg).2
    have := hbl g hb
    omega
  · intro e
    have : some w2.heap.size = some (w2.heap.size + 1) := e
    simp at this
  · refine PT.ext rfl rfl ?_ rfl
    show liveN [x] 1 = [⟨0, 0, (p.Fs.getD 0 default).E.map startM, -1, -1⟩]
    rw [hM, hx]
    rfl
def RNewP (p : ProgD) (w : World) (e : Ending) (w' : World) : Prop :=
  (mayB p.Fs p.Cs = false ∧ e = .returned (.tuple #[.pointer none, .int .i64 1]) ∧ Fr [] w w') ∨
  (mayB p.Fs p.Cs = true ∧ ∃ rb R, e = .returned (.tuple #[.pointer (some ⟨rb, 0, none⟩), .int .i64 0]) ∧ RefAt w' rb R ∧ R.pl = newPT p.Fs p.Cs ∧ R.Cs = p.Cs ∧ (∀ y ∈ R.blocks rb, w.heap.size ≤ y) ∧ (∀ g, R.foot g → p.foot g ∨ w.heap.size ≤ g) ∧ Fr [] w w')
set_option maxHeartbeats 4000000 in
set_option maxRecDepth 100000 in
theorem rnew_any (p : ProgD) (w : World) (h : ProgAt w p) (en : ∀ f ∈ p.Fs, f.en ≤ 10) :
    Calls Try.prog 38 #[.slice p.pa p.Fs.length p.pc, .slice p.ca p.Cs.length p.cc] w (RNewP p w) := by
  have HH := Lib.hid h
  have EN := Lib.hid en
  have C1 := rmay_any p w h
  obtain ⟨mb, hmb⟩ : ∃ b, mayB p.Fs p.Cs = b := ⟨_, rfl⟩
  have HMB := Lib.hid hmb
  rw [hmb] at C1
  clear h en
  cases mb
  · clear hmb
    go_enter Try.func38, Try.ntmps38
    go_wp2_with fail
    refine C1.mono ?_
    rintro e w1 ⟨rfl, hF⟩
    have F1 := Lib.hid hF
    clear hF C1
    go_wp2_with fail
    go_ret2
    exact .inl ⟨HMB.out, rfl, F1.out⟩
  have h0 : 0 < p.Fs.length := by
    unfold mayB at hmb
    simp only [Bool.and_eq_true, decide_eq_true_iff] at hmb
    omega
  obtain ⟨gt, ot, hpa, hgt, hct⟩ := HH.out.rows.at_ h0
  have hcf := hct 0 h0
  obtain ⟨f, hf⟩ : ∃ f, p.Fs.getD 0 default = f := ⟨_, rfl⟩
  have HFE := Lib.hid hf
  have hfm : f ∈ p.Fs := by rw [← hf]; exact getD_memD _ _ h0
  rw [hf] at hcf
  have FX := Lib.hid (HH.out.flats f hfm)
  have y0 : w.cell? ⟨gt, ot, none⟩ = some (.slice f.ea f.en f.ec) := by have := hcf 0 _ rfl; simpa using this
  have y1 : w.cell? ⟨gt, ot + 1, none⟩ = some (.slice f.ta f.tn f.tc) := by have := hcf 1 _ rfl; simpa using this
  have YY := Lib.hid (⟨y0, y1⟩ : w.cell? ⟨gt, ot, none⟩ = some (.slice f.ea f.en f.ec) ∧ w.cell? ⟨gt, ot + 1, none⟩ = some (.slice f.ta f.tn f.tc))
  have HFM := Lib.hid hfm
  have HPA := Lib.hid hpa
  rw [hpa] at C1
  rw [hpa]
  obtain ⟨nf, hnf⟩ : ∃ n, p.Fs.length = n := ⟨_, rfl⟩
  obtain ⟨nc, hnc⟩ : ∃ n, p.Cs.length = n := ⟨_, rfl⟩
  obtain ⟨ca, hca⟩ : ∃ n, p.ca = n := ⟨_, rfl⟩
  have H0 := Lib.hid h0
  have NF := Lib.hid hnf
  have NC := Lib.hid hnc
  have CA := Lib.hid hca
  rw [hnf, hnc, hca] at C1
  rw [hnf, hnc, hca]
  have hnf0 : 0 < nf := by omega
  have dn : decide (0 < nf) = true := decide_eq_true hnf0
  have D1 := Lib.hid (fun w' (g' : Fr [] w w') => rstart_fresh f w' (FX.out.fr g'))
  unfold FlatD.val at D1
  unfold MarkedF at D1
  clear hmb hct hcf hf hfm hpa hnf hnc hca h0 y0 y1
  go_enter Try.func38, Try.ntmps38
  go_wp2_with fail
  refine C1.mono ?_
  rintro e w1 ⟨rfl, hF⟩
  have F1 := Lib.hid hF
  have y0 := cell_fr' YY.out.1 hF
  have y1 := cell_fr' YY.out.2 hF
  clear hF C1
  go_wp2_with fail
  refine (D1.out _ F1.out).mono ?_
  rintro e w2 ⟨a, c, rfl, hM, hF, hfr⟩
  have F2 := Lib.hid (F1.out.trans hF (by simp))
  have M2 := Lib.hid hM
  have HA := Lib.hid (fun g (hg : Holds a f.en g) => (by obtain ⟨_, o, ho⟩ := hg; exact ⟨Nat.le_trans F1.out.size (hfr g o ho), hM.2.holds ⟨by assumption, o, ho⟩⟩ : w.heap.size ≤ g ∧ g < w2.heap.size))
  clear hM hF hfr D1
  go_wp2_with fail
  go_ret2
  refine .inr ⟨HMB.out, ?_⟩
  have hel : (List.map startM f.E).length = f.en := by rw [List.length_map]; exact FX.out.evs.1
  have M3 := M2.out
  have HA3 := HA.out
  rw [← hel] at M3 HA3
  obtain ⟨R, h1, h2, h3, h4, h5⟩ := rnew_fin (c := c) HH.out (may_uniq HMB.out) EN.out F2.out M3 HA3 (by rw [HFE.out])
  rw [hel, HPA.out, NF.out, NC.out, CA.out] at h1
  exact ⟨_, R, rfl, h1, h2, h3, h4, h5, (F2.out.alloc _).alloc _⟩
end Go.Proofs.Ytclkahggfdnpgaa
set_option linter.unusedVariables false
set_option linter.unusedSimpArgs false
namespace Go.Proofs.Ytclkahggfdnpgaa
open Go.RowKit
def FlatD.at_ (f : FlatD) (a : Option Addr) (c : Nat) : FlatD := ⟨f.ea, f.en, f.ec, a, f.tn, c, f.E, f.T⟩
/-- The first j graphs' copies; v: their row; gC: a block that stays out. -/
structure OwnJ (w wr : World) (gC : Nat) (v : Value) (Fs : List FlatD) (G : Nat → FlatD) (j : Nat) : Prop where
  fr : Fr [] w wr
  own : wr.ownsRow (w.heap.size + 1) 31 2 v j (flatC (fun i => (G i).cells) j)
  gs : ∀ i, i < j → ∃ a c, G i = (Fs.getD i default).at_ a c ∧ TiesAt wr a (Fs.getD i default).tn (Fs.getD i default).T ∧ ∀ y, Holds a (Fs.getD i default).tn y → w.heap.size ≤ y ∧ y ≠ gC ∧ v.ownBlock ≠ some y
  out : v.ownBlock ≠ some gC
theorem TiesAt.frH {w w' : World} {a : Option Addr} {n : Nat} {T : List TieD} {S : List Nat} (h : TiesAt w a n T) (f : Fr S w w') (hS : ∀ g, Holds a n g → g ∉ S) : TiesAt w' a n T := ⟨h.1, h.2.frH f hS⟩
theorem OwnJ.keep {w wr wx : World} {gC : Nat} {v : Value} {Fs : List FlatD} {G : Nat → FlatD} {j : Nat} (h : OwnJ w wr gC v Fs G j) (f : Fr [gC] wr wx) (hg : w.heap.size ≤ gC) : OwnJ w wx gC v Fs G j := by
  refine ⟨h.fr.trans f (fun y hy => .inr (by simp at hy; omega)), own_frS h.own f (fun y hy hyg => ?_), fun i hi => ?_, h.out⟩
  · obtain rfl := List.mem_singleton.1 hyg
    exact h.out hy
  · obtain ⟨a, c, h1, h2, h3⟩ := h.gs i hi
    exact ⟨a, c, h1, h2.frH f (fun g hg2 hg3 => by obtain rfl := List.mem_singleton.1 hg3; exact (h3 g hg2).2.1 rfl), h3⟩
theorem OwnJ.step {w wr w4 w5 : World} {gC : Nat} {v v' : Value} {Fs : List FlatD} {G : Nat → FlatD} {j : Nat} {a : Option Addr} {c : Nat} {f : FlatD} (h : OwnJ w wr gC v Fs G j) (hC : gC < wr.heap.size) (hf : Fs.getD j default = f) (f4 : Fr [] wr w4) (hT : TiesAt w4 a f.tn f.T) (hfr : ∀ g o, a = some ⟨g, o, none⟩ → wr.heap.size ≤ g)
    (hlt : ∀ g, Holds a f.tn g → g < w4.heap.size) (hown : w5.ownsRow (w.heap.size + 1) 31 2 v' (j + 1) (flatC (fun i => (G i).cells) j ++ (f.at_ a c).cells)) (hg : w4.grownBy w5 v.ownBlock) (hor : v'.ownBlock = v.ownBlock ∨ v'.ownBlock = some w4.heap.size) :
    OwnJ w w5 gC v' Fs (fun i => if i = j then f.at_ a c else G i) (j + 1) := by
  have hw4 := f4.size
  have hvb : ∀ y, v.ownBlock = some y → y < wr.heap.size ∧ w.heap.size ≤ y := fun y hy => ⟨(h.own.lt y hy).2, by have := (h.own.lt y hy).1; omega⟩
  have F5 : Fr v.ownBlock.toList wr w5 := (f4.mono (by simp)).trans (fr_grown hg) (fun y hy => .inl hy)
  have hwr := h.fr.size
  refine ⟨h.fr.trans F5 (fun y hy => .inr (hvb y (by simpa using hy)).2), ?_, fun i hi => ?_, ?_⟩
  · show w5.ownsRow (w.heap.size + 1) 31 2 v' (j + 1) (flatC (fun i => (if i = j then f.at_ a c else G i).cells) j ++ (if j = j then f.at_ a c else G j).cells)
    rw [if_pos rfl, flatC_congr (C := fun i => (G i).cells) (C' := fun i => (if i = j then f.at_ a c else G i).cells) j (fun i hi => by show (if i = j then f.at_ a c else G i).cells = (G i).cells; rw [if_neg (by omega)])]
    exact hown
  · by_cases hij : i = j
    · subst hij
      refine ⟨a, c, ?_, ?_, fun y hy => ?_⟩
      · rw [hf]
        show (if i = i then f.at_ a c else G i) = _
        rw [if_pos rfl]
      · rw [hf]
        refine hT.frH (fr_grown hg) (fun g hg2 hg3 => ?_)
        have := hvb g (by simpa using hg3)
        obtain ⟨_, o, ho⟩ := hg2
        have := hfr g o ho
        omega
      · rw [hf] at hy
        have h2 := hlt y hy
        obtain ⟨_, o, ho⟩ := hy
        have h1 := hfr y o ho
        refine ⟨by omega, by omega, fun e => ?_⟩
        rcases hor with h3 | h3
        · rw [h3] at e
          have := hvb y e
          omega
        · rw [h3] at e
          cases e
          omega
    · obtain ⟨a', c', h1, h2, h3⟩ := h.gs i (by omega)
      refine ⟨a', c', ?_, h2.frH F5 (fun g hg2 hg3 => (h3 g hg2).2.2 (by simpa using hg3)), fun y hy => ?_⟩
      · show (if i = j then f.at_ a c else G i) = _
        rw [if_neg hij]
        exact h1
      · obtain ⟨q1, q2, q3⟩ := h3 y hy
        refine ⟨q1, q2, fun e => ?_⟩
        rcases hor with h4 | h4
        · rw [h4] at e; exact q3 e
        · rw [h4] at e
          cases e
          have := h2.2.holds hy
          omega
  · intro e
    rcases hor with h4 | h4
    · rw [h4] at e; exact h.out e
    · rw [h4] at e
      cases e
      omega
def OwnPP (p : ProgD) (w : World) (e : Ending) (w' : World) : Prop :=
  ∃ p' : ProgD, e = .returned (.tuple #[.slice p'.pa p'.Fs.length p'.pc, .slice p'.ca p'.Cs.length p'.cc]) ∧ ProgAt w' p' ∧ p'.Fs.map FlatD.nrm = p.Fs.map FlatD.nrm ∧ p'.Cs = p.Cs ∧ Fr [] w w'
theorem mapG_getD (G : Nat → FlatD) {n i : Nat} (hi : i < n) : ((List.range n).map G).getD i default = G i := by
  rw [List.getD_eq_getElem?_getD, List.getElem?_map, List.getElem?_range hi]
  rfl
theorem OwnJ.fin {w wr : World} {gC : Nat} {v vC : Value} {p : ProgD} {G : Nat → FlatD} (hp : ProgAt w p) (h : OwnJ w wr gC v p.Fs G p.Fs.length) (hC : wr.ownsRow (w.heap.size + 1) 117 4 vC p.Cs.length (flatC (fun i => (p.Cs.getD i default).cells) p.Cs.length)) :
    OwnPP p w (.returned (.tuple #[v, vC])) wr := by
  obtain ⟨a, c, rfl, hR⟩ := rowsB_of_own (fun i => flatcells_len _) h.own
  obtain ⟨a2, c2, rfl, hR2⟩ := rowsB_of_own (k := 4) (C := fun i => (p.Cs.getD i default).cells) (fun i => rfl) hC
  have hl : ((List.range p.Fs.length).map G).length = p.Fs.length := by simp
  refine ⟨⟨a, c, (List.range p.Fs.length).map G, a2, c2, p.Cs⟩, by show _ = Ending.returned (.tuple #[.slice a ((List.range p.Fs.length).map G).length c, .slice a2 p.Cs.length c2]); rw [hl], ⟨?_, fun f hf => ?_, hR2.rows, by rw [hl]; exact hp.few, hp.few2⟩, ?_, rfl, h.fr⟩
  · show RowsAt wr a ((List.range p.Fs.length).map G).length 2 (fun i => (((List.range p.Fs.length).map G).getD i default).cells)
    rw [hl]
    refine ⟨fun h0 => ?_⟩
    obtain ⟨b, o, ha, hb, _, _, hc⟩ := hR.at_ h0
    exact ⟨b, o, ha, hb, fun i hi j v hj => by rw [mapG_getD G hi] at hj; exact hc i hi j v hj⟩
  · obtain ⟨i, hi, rfl⟩ := List.mem_map.1 hf
    have hi := List.mem_range.1 hi
    obtain ⟨a', c', h1, h2, _⟩ := h.gs i hi
    have hq := hp.flats _ (getD_memD p.Fs i hi)
    rw [h1]
    exact ⟨hq.evs.fr h.fr, h2, hq.few, hq.few2⟩
  · apply List.ext_getElem?
    intro i
    rw [List.getElem?_map, List.getElem?_map, List.getElem?_map]
    by_cases hi : i < p.Fs.length
    · obtain ⟨a', c', h1, _⟩ := h.gs i hi
      rw [List.getElem?_range hi, getD_at p.Fs i hi]
      show some (G i).nrm = some (p.Fs.getD i default).nrm
      rw [h1]
      rfl
    · rw [List.getElem?_eq_none (by simpa using hi), List.getElem?_eq_none (by omega)]
      rfl
theorem infoF31 : (Try.prog.info? 31).map (fun i => (i.zero, i.size, i.bytes)) = some (some (.agg #[.slice none 0 0, .slice none 0 0]), 2, 48) := by kernel_rfl
theorem infoC117 : (Try.prog.info? 117).map (fun i => (i.zero, i.size, i.bytes)) = some (some (.agg #[.int .i64 0, .int .i64 0, .int .i64 0, .bool false]), 4, 32) := by kernel_rfl
set_option maxHeartbeats 4000000 in
set_option maxRecDepth 100000 in
theorem ownp_any (p : ProgD) (w : World) (h : ProgAt w p) :
    Calls Try.prog 36 #[p.val] w (OwnPP p w) := by
  obtain ⟨i0, hi, hz0, hz1, hz2⟩ := info_parts infoF31
  have HI := Lib.hid hi
  have HZ0 := Lib.hid hz0
  have HZ1 := Lib.hid hz1
  have HZ2 := Lib.hid hz2
  clear hi hz0 hz1 hz2
  obtain ⟨i1, hi, hz0, hz1, hz2⟩ := info_parts infoC117
  have JI := Lib.hid hi
  have JZ0 := Lib.hid hz0
  have JZ1 := Lib.hid hz1
  have JZ2 := Lib.hid hz2
  clear hi hz0 hz1 hz2
  have HH := Lib.hid h
  have hfew := h.few
  have hfew2 := h.few2
  unfold ProgD.val
  obtain ⟨pa, hpa0⟩ : ∃ a, a = p.pa := ⟨_, rfl⟩
  obtain ⟨ca, hca0⟩ : ∃ a, a = p.ca := ⟨_, rfl⟩
  rw [← hpa0, ← hca0]
  have HPA := Lib.hid hpa0
  have HCA0 := Lib.hid hca0
  clear hpa0 hca0
  obtain ⟨n, hn⟩ : ∃ n, n = p.Fs.length := ⟨_, rfl⟩
  obtain ⟨m, hm⟩ : ∃ n, n = p.Cs.length := ⟨_, rfl⟩
  rw [← hn, ← hm]
  rw [← hn] at hfew
  rw [← hm] at hfew2
  have HN := Lib.hid hn
  have HM := Lib.hid hm
  clear h hn hm
  obtain ⟨wA, hwA⟩ : ∃ v, w.alloc (.cells #[.slice pa n p.pc, .slice ca m p.cc] 62) = v := ⟨_, rfl⟩
  have hA : Row wA w.heap.size [.slice pa n p.pc, .slice ca m p.cc] 62 := by rw [← hwA]; exact Row.new w [.slice pa n p.pc, .slice ca m p.cc] 62
  have fA : Fr [] w wA := by rw [← hwA]; exact (Fr.refl [] w).alloc _
  have sA : wA.heap.size = w.heap.size + 1 := by rw [← hwA]; simp
  obtain ⟨wB, hwB⟩ : ∃ v, wA.alloc (.cells #[] 31) = v := ⟨_, rfl⟩
  have fB : Fr [] wA wB := by rw [← hwB]; exact (Fr.refl [] wA).alloc _
  have sB : wB.heap.size = w.heap.size + 2 := by rw [← hwB]; simp [sA]
  have oB : wB.ownsRow (w.heap.size + 1) 31 2 (.slice (some ⟨w.heap.size + 1, 0, none⟩) 0 0) 0 [] := by rw [← hwB, ← sA]; exact own_empty wA 31 2
  obtain ⟨wC, hwC⟩ : ∃ v, wB.alloc (.cells #[] 117) = v := ⟨_, rfl⟩
  have fC : Fr [] wB wC := by rw [← hwC]; exact (Fr.refl [] wB).alloc _
  have sC : wC.heap.size = w.heap.size + 3 := by rw [← hwC]; simp [sB]
  have oC : wC.ownsRow (w.heap.size + 2) 117 4 (.slice (some ⟨w.heap.size + 2, 0, none⟩) 0 0) 0 [] := by rw [← hwC, ← sB]; exact own_empty wB 117 4
  have OJ0 := Lib.hid (⟨(fA.trans fB (by simp)).trans fC (by simp), own_frS oB fC (by simp), fun i hi => by omega, by simp [Value.ownBlock]⟩ : OwnJ w wC (w.heap.size + 2) (.slice (some ⟨w.heap.size + 1, 0, none⟩) 0 0) p.Fs (fun _ => default) 0)
  have OC0 := Lib.hid (own_base oC (by omega) : wC.ownsRow (w.heap.size + 1) 117 4 (.slice (some ⟨w.heap.size + 2, 0, none⟩) 0 0) 0 [])
  have RA0 := Lib.hid ((hA.fr fB (by simp)).fr fC (by simp))
  have SC := Lib.hid sC
  clear fA fB fC oB oC hA
  have c0 := RA0.out.cell 0
  go_enter Try.func36, Try.ntmps36
  go_wp2_with fail
  clear hwA hwB hwC sA sB sC c0
  go_loopg [4, 6, 13] n (fun k v u6 i wr => ∃ (j : Nat) (G : Nat → FlatD), k = n - j ∧ j ≤ n ∧ i = .int .i64 j ∧ OwnJ w wr (w.heap.size + 2) v p.Fs G j ∧ wr.ownsRow (w.heap.size + 1) 117 4 (.slice (some ⟨w.heap.size + 2, 0, none⟩) 0 0) 0 [] ∧ Row wr w.heap.size [.slice pa n p.pc, .slice ca m p.cc] 62)
  case atStart => exact ⟨0, _, rfl, by omega, rfl, OJ0.out, OC0.out, RA0.out⟩
  case round =>
    obtain ⟨j, G, rfl, hj, rfl, hJ, hO, hR⟩ := hrel
    obtain ⟨va, vc, rfl⟩ := own_slice hJ.own
    have OJ := Lib.hid hJ
    have OC := Lib.hid hO
    have RA := Lib.hid hR
    have hcl := (hO.lt (w.heap.size + 2) rfl).2
    have c0 := hR.cell 0
    clear hJ hO hR
    by_cases hjn : j < n
    · have hd : decide (j < n) = true := decide_eq_true hjn
      obtain ⟨gt, ot, hpa, hgt, hct⟩ := (HH.out.rows.fr OJ.out.fr).at_ (by rw [← HN.out]; omega)
      have hcx := hct j (by rw [← HN.out]; exact hjn)
      obtain ⟨f, hf⟩ : ∃ f, p.Fs.getD j default = f := ⟨_, rfl⟩
      rw [hf] at hcx
      have HQ := Lib.hid hf
      have FF := Lib.hid (show FlatAt wr f by rw [← hf]; exact (HH.out.flats _ (getD_memD _ _ (by rw [← HN.out]; exact hjn))).fr OJ.out.fr)
      have y0 : wr.cell? ⟨gt, ot + j * 2, none⟩ = some (.slice f.ea f.en f.ec) := hcx 0 _ rfl
      have y1 : wr.cell? ⟨gt, ot + j * 2 + 1, none⟩ = some (.slice f.ta f.tn f.tc) := hcx 1 _ rfl
      have hpa2 := HPA.out.trans hpa
      subst hpa2
      have D1 := own_fresh f wr FF.out
      unfold OwnedF at D1
      unfold FlatD.val at D1
      clear hcx hct hf hpa hgt
      go_wp2_with fail
      refine D1.mono ?_
      rintro e w3 ⟨a', c', rfl, hT, hF, hfr⟩
      have F3 := Lib.hid hF
      have T3 := Lib.hid hT
      have FRR := Lib.hid hfr
      obtain ⟨w4, hw4⟩ : ∃ v, w3.alloc (.cells #[.slice f.ea f.en f.ec, .slice a' f.tn c'] 31) = v := ⟨_, rfl⟩
      have f34 : Fr [] w3 w4 := by rw [← hw4]; exact (Fr.refl [] w3).alloc _
      have s4 : w4.heap.size = w3.heap.size + 1 := by rw [← hw4]; simp
      have NW := Lib.hid (show ∀ i u, ([.slice f.ea f.en f.ec, .slice a' f.tn c'] : List Value)[i]? = some u → w4.cell? ((⟨w3.heap.size, 0, none⟩ : Addr).add i) = some u by
        intro i u hi
        rw [Addr_add, Nat.zero_add, ← hw4]
        exact ((Row.new w3 [.slice f.ea f.en f.ec, .slice a' f.tn c'] 31).cell i).trans hi)
      have F4 := Lib.hid (F3.out.trans f34 (by simp))
      have O4 := Lib.hid (own_frS OJ.out.own F4.out (by simp))
      have T4 := Lib.hid (T3.out.fr f34)
      have S4 := Lib.hid (show w.heap.size + 1 ≤ w4.heap.size by have := F4.out.size; omega)
      have HLT := Lib.hid (fun g (hg : Holds a' f.tn g) => T4.out.2.holds hg)
      clear hT hF hfr D1 f34 s4 y0 y1
      go_wp2_with (at_builtin; go_loud (refine wpList_append_own_at _ rfl _ _ 65 rfl (w.heap.size + 1) 31 i0 (.agg #[.slice none 0 0, .slice none 0 0]) 2 48 Try.underlying65 HI.out HZ0.out HZ1.out HZ2.out rfl (by decide) _ _ _ rfl O4.out ⟨w3.heap.size, 0, none⟩ 1 1 [.slice f.ea f.en f.ec, .slice a' f.tn c'] rfl rfl NW.out (by simp [Value.oneCell']) ?c3 ?c4 ?c5 ?_))
      case c3 => unfold maxLen; omega
      case c4 => omega
      case c5 => exact S4.out
      intro v' w5 hown hgrow _ hor
      have J5 := Lib.hid (OJ.out.step hcl HQ.out F4.out T4.out FRR.out HLT.out hown hgrow hor)
      have F5 := Lib.hid ((F4.out.mono (by simp)).trans (fr_grown hgrow) (fun y hy => .inl hy))
      have OC5 := Lib.hid (own_frS OC.out F5.out (fun y hy hy2 => OJ.out.out (by cases hy; simpa using hy2)))
      have RA5 := Lib.hid (RA.out.fr F5.out (fun hy => by have := (OJ.out.own.lt w.heap.size (by simpa using hy)).1; omega))
      clear hown hgrow hor hw4 c0
      go_wp2_with fail
      go_roundg (n - (j + 1))
      case measure => omega
      case rel => exact ⟨j + 1, _, rfl, by omega, rfl, J5.out, OC5.out, RA5.out⟩
    · have hd : decide (j < n) = false := decide_eq_false hjn
      obtain rfl : j = n := by omega
      have c1 := RA.out.cell 1
      go_wp2_with fail
      clear c0 c1
      obtain ⟨sz, hsz⟩ : ∃ n, wr.heap.size = n := ⟨_, rfl⟩
      have HSZ := Lib.hid hsz
      clear hsz
      go_loopg [5, 7, 29] m (fun k v u7 i wx => ∃ q : Nat, k = m - q ∧ q ≤ m ∧ i = .int .i64 q ∧ wx.ownsRow (w.heap.size + 1) 117 4 v q (flatC (fun i => (p.Cs.getD i default).cells) q) ∧ Fr [w.heap.size + 2] wr wx ∧ (v.ownBlock = some (w.heap.size + 2) ∨ ∀ y, v.ownBlock = some y → sz ≤ y))
      case atStart => exact ⟨0, rfl, by omega, rfl, OC.out, Fr.refl _ _, .inl rfl⟩
      case round =>
        obtain ⟨q, rfl, hq, rfl, hO, hF, hor⟩ := hrel
        obtain ⟨ua, uc, rfl⟩ := own_slice hO
        have OQ := Lib.hid hO
        have FQ := Lib.hid hF
        have HOR := Lib.hid hor
        have FW := Lib.hid (OJ.out.fr.trans hF (fun y hy => .inr (by simp at hy; omega)))
        have c1 := (RA.out.fr hF (by simp)).cell 1
        clear hO hF hor
        by_cases hqm : q < m
        · have hd2 : decide (q < m) = true := decide_eq_true hqm
          obtain ⟨b1, o1, hca, hb1, hc1⟩ := (HH.out.calls.fr FW.out).at_ (by rw [← HM.out]; omega)
          have hcx := hc1 q (by rw [← HM.out]; exact hqm)
          obtain ⟨z, hz⟩ : ∃ z, p.Cs.getD q default = z := ⟨_, rfl⟩
          rw [hz] at hcx
          have HZQ := Lib.hid hz
          have z0 : wr.cell? ⟨b1, o1 + q * 4, none⟩ = some (.int .i64 z.of_) := hcx 0 _ rfl
          have z1 : wr.cell? ⟨b1, o1 + q * 4 + 1, none⟩ = some (.int .i64 z.at_) := hcx 1 _ rfl
          have z2 : wr.cell? ⟨b1, o1 + q * 4 + 2, none⟩ = some (.int .i64 z.to_) := hcx 2 _ rfl
          have z3 : wr.cell? ⟨b1, o1 + q * 4 + 3, none⟩ = some (.bool z.many) := hcx 3 _ rfl
          have hca2 := HCA0.out.trans hca
          subst hca2
          clear hcx hc1 hz hca hb1
          obtain ⟨w4, hw4⟩ : ∃ v, wr.alloc (.cells #[.int .i64 z.of_, .int .i64 z.at_, .int .i64 z.to_, .bool z.many] 117) = v := ⟨_, rfl⟩
          have NW := Lib.hid (show ∀ i u, ([.int .i64 z.of_, .int .i64 z.at_, .int .i64 z.to_, .bool z.many] : List Value)[i]? = some u → w4.cell? ((⟨wr.heap.size, 0, none⟩ : Addr).add i) = some u by
            intro i u hi
            rw [Addr_add, Nat.zero_add, ← hw4]
            exact ((Row.new wr [.int .i64 z.of_, .int .i64 z.at_, .int .i64 z.to_, .bool z.many] 117).cell i).trans hi)
          have F4 := Lib.hid (show Fr [] wr w4 by rw [← hw4]; exact (Fr.refl [] wr).alloc _)
          have O4 := Lib.hid (own_frS OQ.out F4.out (by simp))
          have S4 := Lib.hid (show w.heap.size + 1 ≤ w4.heap.size by have := F4.out.size; have := FQ.out.size; omega)
          go_wp2_with (at_builtin; go_loud (refine wpList_append_own_at _ rfl _ _ 66 rfl (w.heap.size + 1) 117 i1 (.agg #[.int .i64 0, .int .i64 0, .int .i64 0, .bool false]) 4 32 Try.underlying66 JI.out JZ0.out JZ1.out JZ2.out rfl (by decide) _ _ _ rfl O4.out ⟨wr.heap.size, 0, none⟩ 1 1 [.int .i64 z.of_, .int .i64 z.at_, .int .i64 z.to_, .bool z.many] rfl rfl NW.out (by simp [Value.oneCell']) ?c3 ?c4 ?c5 ?_))
          case c3 => unfold maxLen; omega
          case c4 => omega
          case c5 => exact S4.out
          intro v' w5 hown hgrow _ hor
          have O5 := Lib.hid (show w5.ownsRow (w.heap.size + 1) 117 4 v' (q + 1) (flatC (fun i => (p.Cs.getD i default).cells) (q + 1)) by
            show w5.ownsRow (w.heap.size + 1) 117 4 v' (q + 1) (flatC (fun i => (p.Cs.getD i default).cells) q ++ (p.Cs.getD q default).cells)
            rw [HZQ.out]
            exact hown)
          have F5 := Lib.hid (FQ.out.trans ((F4.out.mono (by simp)).trans (fr_grown hgrow) (fun y hy => .inl hy)) (fun y hy => by
            have hy' : (Value.slice ua q uc).ownBlock = some y := by simpa using hy
            rcases HOR.out with h1 | h1
            · rw [h1] at hy'; cases hy'; exact .inl (by simp)
            · exact .inr (by rw [HSZ.out]; exact h1 y hy')))
          have OR5 := Lib.hid (show v'.ownBlock = some (w.heap.size + 2) ∨ ∀ y, v'.ownBlock = some y → sz ≤ y from by
            rcases hor with h1 | h1
            · rw [h1]; exact HOR.out
            · rw [h1]
              exact .inr (fun y hy => by cases hy; rw [← HSZ.out]; exact Nat.le_trans FQ.out.size F4.out.size))
          clear hown hgrow hor hw4 c1 z0 z1 z2 z3
          go_wp2_with fail
          go_roundg (m - (q + 1))
          case measure => omega
          case rel => exact ⟨q + 1, rfl, by omega, rfl, O5.out, F5.out, OR5.out⟩
        · have hd2 : decide (q < m) = false := decide_eq_false hqm
          obtain rfl : q = m := by omega
          have JJ := Lib.hid (OJ.out.keep FQ.out (by omega) : OwnJ w wr (w.heap.size + 2) (.slice va j vc) p.Fs G j)
          go_wp2_with fail
          go_ret2
          have h1 := JJ.out
          have h2 := OQ.out
          rw [HN.out] at h1
          rw [HM.out] at h2
          have h3 := OwnJ.fin HH.out h1 h2
          rw [← HN.out, ← HM.out] at h3
          exact h3
end Go.Proofs.Ytclkahggfdnpgaa
set_option linter.unusedVariables false
set_option linter.unusedSimpArgs false
namespace Go.Proofs.Ytclkahggfdnpgaa
open Go.RowKit
theorem TreeAt.frO {w w' : World} {tb hi : Nat} {T : TreeD} {Z : List Nat} (h : TreeAt w tb hi T) (f : Fr Z w w') (hz : ∀ z ∈ Z, hi ≤ z ∧ z ∉ T.blocks tb ∧ ¬ T.mblk z) : TreeAt w' tb hi T := by
  have hcm := h.cmt
  have htb := h.tbh
  refine ⟨h.head.fr f (fun hy => by have := (hz _ hy).1; omega), h.tmpl.fr f (fun x hx => .inr (hz x hx).1), h.map.fr f (fun hy => by have := (hz _ hy).1; omega), hcm, htb, own_frS h.row f (fun y hy hy2 => (hz y hy2).2.1 (List.mem_cons_of_mem _ (List.mem_append_left _ (by simpa using hy)))), fun x hx => (h.ins x hx).fr f (fun hy => (hz _ hy).2.1 (List.mem_cons_of_mem _ (List.mem_append_right _ (List.mem_map_of_mem hx)))), fun x hx => (h.mks x hx).frB f (fun h0 g o ha hg => (hz g hg).2.2 ⟨x, hx, o, h0, ha⟩), h.apart, h.low, h.nd, h.sep, h.few⟩
theorem TreeAt.block_lt {w : World} {tb hi : Nat} {T : TreeD} (h : TreeAt w tb hi T) {y : Nat} (hy : y ∈ T.blocks tb) : y < w.heap.size := by
  rcases List.mem_cons.1 hy with rfl | hy
  · exact h.head.lt
  · rcases List.mem_append.1 hy with hy | hy
    · exact (h.row.lt y (by simpa using hy)).2
    · obtain ⟨x, hx, rfl⟩ := List.mem_map.1 hy
      exact (h.ins x hx).lt
theorem TreeAt.mblk_lt {w : World} {tb hi : Nat} {T : TreeD} (h : TreeAt w tb hi T) {y : Nat} (hy : T.mblk y) : y < w.heap.size := by
  obtain ⟨x, hx, o, h0, ha⟩ := hy
  exact (h.mks x hx).2.holds ⟨h0, o, ha⟩
structure Pair (w : World) (tb hi rb : Nat) (T : TreeD) (R : RefD) : Prop where
  tree : TreeAt w tb hi T
  size : hi ≤ w.heap.size
  ref : RefAt w rb R
  a1 : ∀ z ∈ R.blocks rb, hi ≤ z ∧ z ∉ T.blocks tb ∧ ¬ T.mblk z
  a2 : ∀ z ∈ T.blocks tb, ¬ R.foot z
/-- The two of them, without their places; S: the blocks that may turn. -/
def PairIs (w : World) (tb hi rb : Nat) (S : List Nat) (P Q : PT) : Prop := ∃ T R, Pair w tb hi rb T R ∧ T.pl = P ∧ R.pl = Q ∧ T.blocks tb ++ R.blocks rb = S
def NextPair (tb hi rb : Nat) (S : List Nat) (w : World) (P Q : PT) (w' : World) : Prop := ∃ S', PairIs w' tb hi rb S' P Q ∧ Fr S w w' ∧ ∀ y ∈ S', y ∈ S ∨ w.heap.size ≤ y
section
variable {w w' : World} {tb hi rb n : Nat} {S : List Nat} {P Q : PT} {T T' : TreeD} {R R' : RefD}
theorem Pair.fr (h : Pair w tb hi rb T R) (f : Fr [] w w') : Pair w' tb hi rb T R := ⟨h.tree.fr f, Nat.le_trans h.size f.size, h.ref.fr f, h.a1, h.a2⟩
theorem PairIs.fr (h : PairIs w tb hi rb S P Q) (f : Fr [] w w') : PairIs w' tb hi rb S P Q := by
  obtain ⟨T, R, h1, h2⟩ := h
  exact ⟨T, R, h1.fr f, h2⟩
theorem Pair.lt (h : Pair w tb hi rb T R) : ∀ y ∈ T.blocks tb ++ R.blocks rb, y < w.heap.size := fun y hy => by
  rcases List.mem_append.1 hy with hy | hy
  · exact h.tree.block_lt hy
  · exact h.ref.block_lt hy
theorem PairIs.lt (h : PairIs w tb hi rb S P Q) : ∀ y ∈ S, y < w.heap.size := by
  obtain ⟨T, R, h1, _, _, rfl⟩ := h
  exact h1.lt
/-- The tree acts. -/
theorem Pair.actT (h : Pair w tb hi rb T R) (N : NextT tb hi T T' w w') : NextPair tb hi rb (T.blocks tb ++ R.blocks rb) w T'.pl R.pl w' := by
  obtain ⟨hT, hF, hb, hc, hm⟩ := N
  refine ⟨T'.blocks tb ++ R.blocks rb, ⟨T', R, ⟨hT, Nat.le_trans h.size hF.size, h.ref.frO hF (fun g hg hgb => h.a2 g hgb hg) (fun g hg hgb => (h.a1 g hg).2.1 hgb), fun z hz => ⟨(h.a1 z hz).1, fun hz2 => ?_, fun hz2 => ?_⟩, fun z hz hz2 => ?_⟩, rfl, rfl, rfl⟩, hF.mono (fun y hy => .inl (List.mem_append_left _ hy)), fun y hy => ?_⟩
  · rcases hb z hz2 with h1 | h1
    · exact (h.a1 z hz).2.1 h1
    · have := h.ref.block_lt hz
      omega
  · rcases hm z hz2 with h1 | h1
    · exact (h.a1 z hz).2.2 h1
    · have := h.ref.block_lt hz
      omega
  · rcases hb z hz with h1 | h1
    · exact h.a2 z h1 hz2
    · have := h.ref.foot_lt hz2
      omega
  · rcases List.mem_append.1 hy with hy | hy
    · rcases hb y hy with h1 | h1
      · exact .inl (List.mem_append_left _ h1)
      · exact .inr h1
    · exact .inl (List.mem_append_right _ hy)
/-- The document's tree acts. -/
theorem Pair.actR (h : Pair w tb hi rb T R) (N : NextR rb R R' w w') : NextPair tb hi rb (T.blocks tb ++ R.blocks rb) w T.pl R'.pl w' := by
  obtain ⟨hR, hF, hb, hf⟩ := N
  refine ⟨T.blocks tb ++ R'.blocks rb, ⟨T, R', ⟨h.tree.frO hF h.a1, Nat.le_trans h.size hF.size, hR, fun z hz => ?_, fun z hz hz2 => ?_⟩, rfl, rfl, rfl⟩, hF.mono (fun y hy => .inl (List.mem_append_right _ hy)), fun y hy => ?_⟩
  · rcases hb z hz with h1 | h1
    · exact h.a1 z h1
    · exact ⟨Nat.le_trans h.size h1, fun hz2 => by have := h.tree.block_lt hz2; omega, fun hz2 => by have := h.tree.mblk_lt hz2; omega⟩
  · rcases hf z hz2 with h1 | h1
    · exact h.a2 z hz h1
    · have := h.tree.block_lt hz
      omega
  · rcases List.mem_append.1 hy with hy | hy
    · exact .inl (List.mem_append_left _ hy)
    · rcases hb y hy with h1 | h1
      · exact .inl (List.mem_append_right _ h1)
      · exact .inr h1
theorem NextPair.trans {P1 Q1 P2 Q2 : PT} {w1 w2 : World} (h : NextPair tb hi rb S w P1 Q1 w1) (k : ∀ S1, PairIs w1 tb hi rb S1 P1 Q1 → NextPair tb hi rb S1 w1 P2 Q2 w2) : NextPair tb hi rb S w P2 Q2 w2 := by
  obtain ⟨S1, h1, h2, h3⟩ := h
  obtain ⟨S2, k1, k2, k3⟩ := k S1 h1
  refine ⟨S2, k1, h2.trans k2 h3, fun y hy => ?_⟩
  rcases k3 y hy with h4 | h4
  · exact h3 y h4
  · exact .inr (Nat.le_trans h2.size h4)
theorem do_pt (h : PairIs w tb hi rb S P Q) (g : GoodP P n) (hn : n ≤ 900) (id at' : Int) :
    Calls Try.prog 41 #[.pointer (some ⟨tb, 0, none⟩), .int .i64 id, .int .i64 at'] w fun e w' => e = .returned (.tuple #[.int .i64 (doF P id at').1, .int .i64 (doF P id at').2.1]) ∧ NextPair tb hi rb S w (doF P id at').2.2 Q w' := by
  obtain ⟨T, R, hp, rfl, rfl, rfl⟩ := h
  refine (do_pl tb hi T id at' w hp.tree g hn hp.size).mono ?_
  rintro e w' ⟨T', rfl, ht, hN⟩
  exact ⟨rfl, ht ▸ hp.actT hN⟩
theorem end_pt (h : PairIs w tb hi rb S P Q) (g : GoodP P n) (hn : n ≤ 900) (id : Int) :
    Calls Try.prog 43 #[.pointer (some ⟨tb, 0, none⟩), .int .i64 id] w fun e w' => e = .returned (.int .i64 (endF P id).1) ∧ NextPair tb hi rb S w (endF P id).2 Q w' := by
  obtain ⟨T, R, hp, rfl, rfl, rfl⟩ := h
  refine (end_pl tb hi T id w hp.tree g hn hp.size).mono ?_
  rintro e w' ⟨T', rfl, ht, hN⟩
  exact ⟨rfl, ht ▸ hp.actT hN⟩
theorem tick_pt (h : PairIs w tb hi rb S P Q) (g : GoodP P n) (hn : n ≤ 900) :
    Calls Try.prog 45 #[.pointer (some ⟨tb, 0, none⟩)] w fun e w' => e = .returned (.int .i64 (tickF P).1) ∧ NextPair tb hi rb S w (tickF P).2 Q w' := by
  obtain ⟨T, R, hp, rfl, rfl, rfl⟩ := h
  refine (tick_pl tb hi T w hp.tree g hn hp.size).mono ?_
  rintro e w' ⟨T', rfl, ht, hN⟩
  exact ⟨rfl, ht ▸ hp.actT hN⟩
theorem do_pr (h : PairIs w tb hi rb S P Q) (g : GoodP Q n) (hn : n ≤ 890) (id at' : Int) :
    Calls Try.prog 42 #[.pointer (some ⟨rb, 0, none⟩), .int .i64 id, .int .i64 at'] w fun e w' => e = .returned (.tuple #[.int .i64 (doF Q id at').1, .int .i64 (doF Q id at').2.1]) ∧ NextPair tb hi rb S w P (doF Q id at').2.2 w' := by
  obtain ⟨T, R, hp, rfl, rfl, rfl⟩ := h
  refine (rtdo_any rb R id at' w hp.ref g hn hp.ref.uq hp.ref.cf).mono ?_
  rintro e w' ⟨T', rfl, ht, hN⟩
  exact ⟨rfl, ht ▸ hp.actR hN⟩
theorem end_pr (h : PairIs w tb hi rb S P Q) (g : GoodP Q n) (id : Int) :
    Calls Try.prog 44 #[.pointer (some ⟨rb, 0, none⟩), .int .i64 id] w fun e w' => e = .returned (.int .i64 (endF Q id).1) ∧ NextPair tb hi rb S w P (endF Q id).2 w' := by
  obtain ⟨T, R, hp, rfl, rfl, rfl⟩ := h
  refine (rtend_any rb R id w hp.ref g).mono ?_
  rintro e w' ⟨T', rfl, ht, hN⟩
  exact ⟨rfl, ht ▸ hp.actR hN⟩
theorem tick_pr (h : PairIs w tb hi rb S P Q) (g : GoodP Q n) :
    Calls Try.prog 46 #[.pointer (some ⟨rb, 0, none⟩)] w fun e w' => e = .returned (.int .i64 (tickF Q).1) ∧ NextPair tb hi rb S w P (tickF Q).2 w' := by
  obtain ⟨T, R, hp, rfl, rfl, rfl⟩ := h
  refine (rttick_any rb R w hp.ref g).mono ?_
  rintro e w' ⟨T', rfl, ht, hN⟩
  exact ⟨rfl, ht ▸ hp.actR hN⟩
/-- What is asked. -/
theorem PairIs.is (h : PairIs w tb hi rb S P Q) : ∃ S0, TreeIs w tb hi S0 P := by
  obtain ⟨T, R, hp, rfl, rfl, rfl⟩ := h
  exact ⟨_, ⟨⟨T, hp.tree, rfl, rfl⟩, hp.size⟩⟩
theorem live_pt (h : PairIs w tb hi rb S P Q) : Calls Try.prog 48 #[.pointer (some ⟨tb, 0, none⟩)] w (IntsQ (P.L.map (·.id)) w) := by
  obtain ⟨S0, h0⟩ := h.is
  exact live_is h0
theorem kids_pt (h : PairIs w tb hi rb S P Q) (id : Int) : Calls Try.prog 50 #[.pointer (some ⟨tb, 0, none⟩), .int .i64 id] w (IntsQ ((P.kids id (-1)).map (·.id)) w) := by
  obtain ⟨S0, h0⟩ := h.is
  exact children_is h0 id
theorem depth_pt (h : PairIs w tb hi rb S P Q) (g : GoodP P n) (hn : n ≤ 900) (id : Int) :
    Calls Try.prog 52 #[.pointer (some ⟨tb, 0, none⟩), .int .i64 id] w fun e w' => e = .returned (.int .i64 (P.depth id)) ∧ Fr [] w w' := by
  obtain ⟨S0, h0⟩ := h.is
  exact depth_is h0 g hn id
theorem slack_pt (h : PairIs w tb hi rb S P Q) (g : GoodP P n) (hn : n ≤ 900) :
    Calls Try.prog 54 #[.pointer (some ⟨tb, 0, none⟩)] w fun e w' => e = .returned (.int .i64 P.slack) ∧ Fr [] w w' := by
  obtain ⟨S0, h0⟩ := h.is
  exact slack_is h0 g hn
theorem done_pt (h : PairIs w tb hi rb S P Q) (g : GoodP P n) (hn : n ≤ 900) :
    Calls Try.prog 56 #[.pointer (some ⟨tb, 0, none⟩)] w fun e w' => e = .returned (.bool P.done) ∧ Fr [] w w' := by
  obtain ⟨S0, h0⟩ := h.is
  exact done_is h0 g hn
theorem mark_pt (h : PairIs w tb hi rb S P Q) (g : GoodP P n) (hn : n ≤ 900) (id : Int) :
    Calls Try.prog 58 #[.pointer (some ⟨tb, 0, none⟩), .int .i64 id] w (MarkQ P id w) := by
  obtain ⟨S0, h0⟩ := h.is
  exact mark_is h0 g hn id
theorem live_pr (h : PairIs w tb hi rb S P Q) : Calls Try.prog 49 #[.pointer (some ⟨rb, 0, none⟩)] w (IntsQ (Q.L.map (·.id)) w) := by
  obtain ⟨T, R, hp, rfl, rfl, rfl⟩ := h
  exact (rlive_any rb R w hp.ref).mono fun e w' h => h.at_
theorem kids_pr (h : PairIs w tb hi rb S P Q) (id : Int) : Calls Try.prog 51 #[.pointer (some ⟨rb, 0, none⟩), .int .i64 id, .int .i64 (-1)] w (IntsQ ((Q.kids id (-1)).map (·.id)) w) := by
  obtain ⟨T, R, hp, rfl, rfl, rfl⟩ := h
  exact (rkids_any rb R id (-1) w hp.ref).mono fun e w' h => h.at_
theorem depth_pr (h : PairIs w tb hi rb S P Q) (g : GoodP Q n) (hn : n ≤ 900) (id : Int) :
    Calls Try.prog 53 #[.pointer (some ⟨rb, 0, none⟩), .int .i64 id] w fun e w' => e = .returned (.int .i64 (Q.depth id)) ∧ Fr [] w w' := by
  obtain ⟨T, R, hp, rfl, rfl, rfl⟩ := h
  exact rdepth_any rb R id w hp.ref g hn
theorem slack_pr (h : PairIs w tb hi rb S P Q) (g : GoodP Q n) :
    Calls Try.prog 55 #[.pointer (some ⟨rb, 0, none⟩)] w fun e w' => e = .returned (.int .i64 Q.slack) ∧ Fr [] w w' := by
  obtain ⟨T, R, hp, rfl, rfl, rfl⟩ := h
  exact rtslack_any rb R w hp.ref g
theorem done_pr (h : PairIs w tb hi rb S P Q) (g : GoodP Q n) :
    Calls Try.prog 57 #[.pointer (some ⟨rb, 0, none⟩)] w fun e w' => e = .returned (.bool Q.done) ∧ Fr [] w w' := by
  obtain ⟨T, R, hp, rfl, rfl, rfl⟩ := h
  exact rtdone_any rb R w hp.ref g
def MarkR (Q : PT) (id : Int) (w : World) (e : Ending) (w' : World) : Prop :=
  (Q.of id = none ∧ e = .returned (.tuple #[.slice none 0 0, .bool false]) ∧ Fr [] w w') ∨
  ∃ x, Q.of id = some x ∧ ∃ a c, e = .returned (.tuple #[.slice a x.m.length c, .bool true]) ∧ MarksAt w' a x.m.length x.m ∧ Fr [] w w'
theorem mark_pr (h : PairIs w tb hi rb S P Q) (id : Int) : Calls Try.prog 59 #[.pointer (some ⟨rb, 0, none⟩), .int .i64 id] w (MarkR Q id w) := by
  obtain ⟨T, R, hp, rfl, rfl, rfl⟩ := h
  refine (rmarking_any rb R id w hp.ref).mono ?_
  rintro e w' (⟨hl, rfl, hF⟩ | ⟨hl, k, rfl, hk, rfl, hF⟩)
  · exact .inl ⟨ref_of_none hl, rfl, hF⟩
  · have := ref_of hl
    rw [Int.toNat_natCast] at this
    exact .inr ⟨_, this, _, _, rfl, (hp.ref.mks _ (getD_memD R.L k hk)).fr hF, hF⟩
/-- How many nodes there are. -/
theorem PairIs.nodes (h : PairIs w tb hi rb S P Q) : ∃ a c, w.cell? ⟨rb, 2, none⟩ = some (.slice a Q.next c) := by
  obtain ⟨T, R, hp, rfl, rfl, rfl⟩ := h
  obtain ⟨a, c, hv⟩ := hp.ref.lvform
  exact ⟨a, c, by have := hp.ref.head.cell 2; rw [hv] at this; exact this⟩
end
/-- How it starts. -/
theorem may_nrm (Fs : List FlatD) (Cs : List CallD) : mayB (Fs.map FlatD.nrm) Cs = mayB Fs Cs := by
  unfold mayB badC
  simp only [List.length_map, getD_nrm]
  rfl
theorem newPT_nrm (Fs Gs : List FlatD) (Cs : List CallD) (h : Gs.map FlatD.nrm = Fs.map FlatD.nrm) : newPT Gs Cs = newPT Fs Cs := by
  have e : (Gs.getD 0 default).E = (Fs.getD 0 default).E := by
    have h1 : (Gs.getD 0 default).nrm.E = (Fs.getD 0 default).nrm.E := by rw [← getD_nrm, ← getD_nrm, h]
    exact h1
  unfold newPT
  rw [h, e]
theorem may_own {Fs Gs : List FlatD} {Cs : List CallD} (h : Gs.map FlatD.nrm = Fs.map FlatD.nrm) : mayB Gs Cs = mayB Fs Cs := by rw [← may_nrm Gs, ← may_nrm Fs, h]
theorem en_own {Fs Gs : List FlatD} (h : Gs.map FlatD.nrm = Fs.map FlatD.nrm) (en : ∀ f ∈ Fs, f.en ≤ 10) : ∀ f ∈ Gs, f.en ≤ 10 := fun f hf => by
  have h1 : f.nrm ∈ Gs.map FlatD.nrm := List.mem_map_of_mem hf
  rw [h] at h1
  obtain ⟨y, hy, he⟩ := List.mem_map.1 h1
  have := en y hy
  have h2 : y.nrm.en = f.nrm.en := by rw [he]
  show f.nrm.en ≤ 10
  rw [← h2]
  exact this
/-- The tree is there: what is known for the document's New behind it. -/
def NewTP (p p' : ProgD) (w : World) (e : Ending) (w' : World) : Prop :=
  (mayB p.Fs p.Cs = false ∧ e = .returned (.tuple #[.pointer none, .int .i64 1]) ∧ Fr [] w w') ∨
  (mayB p.Fs p.Cs = true ∧ ∃ tb hi S0, e = .returned (.tuple #[.pointer (some ⟨tb, 0, none⟩), .int .i64 0]) ∧ Fr [] w w' ∧ (∀ y ∈ S0, w.heap.size ≤ y ∧ y < w'.heap.size) ∧
    ∀ w1 w2 rb R, Fr [] w' w1 → Fr [] w1 w2 → RefAt w2 rb R → R.pl = newPT p.Fs p.Cs → (∀ y ∈ R.blocks rb, w1.heap.size ≤ y) → (∀ g, R.foot g → p'.foot g ∨ w1.heap.size ≤ g) → PairIs w2 tb hi rb (S0 ++ R.blocks rb) (newPT p.Fs p.Cs) (newPT p.Fs p.Cs))
theorem new_pt (p p' : ProgD) (w : World) (h : ProgAt w p) (h' : ∀ g, p'.foot g → g < w.heap.size) : Calls Try.prog 37 #[p.val] w (NewTP p p' w) := by
  refine (new_any p w h).mono ?_
  rintro e w' (⟨hm, rfl, hF⟩ | ⟨hm, tb, hi, T, rfl, hN, hT, hs, htb, _, _, hF⟩)
  · exact .inl ⟨hm, rfl, hF⟩
  · have h0 : 0 < p.Fs.length := by
      unfold mayB at hm
      simp only [Bool.and_eq_true, decide_eq_true_iff] at hm
      omega
    have hlo : ∀ y ∈ T.blocks tb, w.heap.size ≤ y := fun y hy => by
      have := hT.tbh
      rcases hT.blocks_lo hy with h1 | h1 <;> omega
    refine .inr ⟨hm, tb, hi, T.blocks tb, rfl, hF, fun y hy => ⟨hlo y hy, hT.block_lt hy⟩, fun w1 w2 rb R f1 f2 hR hpl hb hf => ?_⟩
    have hs1 := f1.size
    refine ⟨T, R, ⟨(hT.fr f1).fr f2, by have := f2.size; omega, hR, fun z hz => ?_, fun z hz hz2 => ?_⟩, hN.pl h0, hpl, rfl⟩
    · have := hb z hz
      exact ⟨by omega, fun hz2 => by have := hT.block_lt hz2; omega, fun hz2 => by have := hT.mblk_lt hz2; omega⟩
    · have h1 := hT.block_lt hz
      have h2 := hlo z hz
      rcases hf z hz2 with h3 | h3
      · have := h' z h3; omega
      · omega
end Go.Proofs.Ytclkahggfdnpgaa

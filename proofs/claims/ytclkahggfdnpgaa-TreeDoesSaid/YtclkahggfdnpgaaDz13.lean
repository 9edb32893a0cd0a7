/- Parts of the proof: Tr15, Tr16. (Merged by pack.py.) -/
import Derived.Test.YtclkahggfdnpgaaDz12
set_option linter.unusedVariables false
set_option linter.unusedSimpArgs false
namespace Go.Proofs.Ytclkahggfdnpgaa
open Go.RowKit
structure SameF (f g : FlatD) : Prop where
  E : g.E = f.E
  T : g.T = f.T
  en : g.en = f.en
  tn : g.tn = f.tn
theorem SameF.refl (f : FlatD) : SameF f f := ⟨rfl, rfl, rfl, rfl⟩
theorem SameF.trans {f g h : FlatD} (a : SameF f g) (b : SameF g h) : SameF f h := ⟨b.E.trans a.E, b.T.trans a.T, b.en.trans a.en, b.tn.trans a.tn⟩
theorem SameF.symm {f g : FlatD} (a : SameF f g) : SameF g f := ⟨a.E.symm, a.T.symm, a.en.symm, a.tn.symm⟩
def callsM (Cs : List CallD) : Nat → Int × Int → Option CallD
  | 0, _ => none
  | j + 1, y => if y = (Cs.getD j default).key then some (Cs.getD j default) else callsM Cs j y
def FlatD.apart (v : Value) (g : FlatD) : Prop := (∀ b o, 0 < g.en → g.ea = some ⟨b, o, none⟩ → v.ownBlock ≠ some b) ∧ (∀ b o, 0 < g.tn → g.ta = some ⟨b, o, none⟩ → v.ownBlock ≠ some b)
theorem flatcells_len (f : FlatD) : f.cells.length = 2 := rfl
/-- The first j templates are cloned. -/
structure NewJ (w wr : World) (tb cm : Nat) (v : Value) (Fs Gs : List FlatD) (j nC : Nat) (C : Int × Int → Option CallD) : Prop where
  fr : Fr [] w wr
  lo : w.heap.size ≤ cm
  cmt : cm < tb
  head : Row wr tb [v, .map (some cm), .slice none 0 0, .int .i64 0] 120
  own : wr.ownsRow (tb + 1) 25 2 v j (flatC (fun i => (Gs.getD i default).cells) j)
  len : Gs.length = j
  fl : ∀ g ∈ Gs, FlatB wr (tb + 1) wr.heap.size g
  ap : ∀ g ∈ Gs, g.apart v
  same : ∀ i, i < j → SameF (Fs.getD i default) (Gs.getD i default)
  map : MapA pairK CallD.val wr cm nC C
theorem NewJ.keep {w wr w' : World} {tb cm : Nat} {v : Value} {Fs Gs : List FlatD} {j nC : Nat} {C : Int × Int → Option CallD} (h : NewJ w wr tb cm v Fs Gs j nC C) (f : Fr [] wr w') : NewJ w w' tb cm v Fs Gs j nC C :=
  ⟨h.fr.trans f (by simp), h.lo, h.cmt, h.head.fr f (by simp), own_frS h.own f (by simp), h.len, fun g hg => ((h.fl g hg).fr f (by simp)).mono (Nat.le_refl _) f.size, h.ap, h.same, h.map.fr f (by simp)⟩
theorem NewJ.form {w wr : World} {tb cm : Nat} {v : Value} {Fs Gs : List FlatD} {j nC : Nat} {C : Int × Int → Option CallD} (h : NewJ w wr tb cm v Fs Gs j nC C) : ∃ a c, v = .slice a j c := by
  obtain ⟨a, c, h1, _⟩ := rowsB_of_own (fun i => flatcells_len _) h.own
  exact ⟨a, c, h1⟩
/-- A graph's blocks stay where the own row grows. -/
theorem RowsB.frv {w w' : World} {lo hi : Nat} {a : Option Addr} {n k : Nat} {C : Nat → List Value} {S : List Nat} (h : RowsB w lo hi a n k C) (f : Fr S w w') (hS : ∀ b o, 0 < n → a = some ⟨b, o, none⟩ → b ∉ S) : RowsB w' lo hi a n k C := by
  refine ⟨fun h0 => ?_⟩
  obtain ⟨b, o, rfl, hb, h1, h2, hc⟩ := h.at_ h0
  refine ⟨b, o, rfl, Nat.lt_of_lt_of_le hb f.size, h1, h2, fun i hi j v hj => ?_⟩
  rw [World.cell?_of_block (f.block b hb (hS b o h0 rfl))]
  exact hc i hi j v hj
theorem FlatB.frv {w w' : World} {lo hi : Nat} {g : FlatD} {v : Value} (h : FlatB w lo hi g) (ha : g.apart v) (f : Fr v.ownBlock.toList w w') : FlatB w' lo hi g :=
  ⟨h.el, h.tl, h.evs.frv f (fun b o h0 he hb => ha.1 b o h0 he (by simpa using hb)), h.ties.frv f (fun b o h0 he hb => ha.2 b o h0 he (by simpa using hb)), h.few, h.few2⟩
theorem flatC_snoc (Gs : List FlatD) (g : FlatD) : flatC (fun i => ((Gs ++ [g]).getD i default).cells) (Gs.length + 1) = flatC (fun i => (Gs.getD i default).cells) Gs.length ++ g.cells := by
  have h1 : ∀ n, n ≤ Gs.length → flatC (fun i => ((Gs ++ [g]).getD i default).cells) n = flatC (fun i => (Gs.getD i default).cells) n := by
    intro n
    induction n with
    | zero => intro _; rfl
    | succ n ih =>
      intro hn
      show flatC _ n ++ _ = flatC _ n ++ _
      rw [ih (by omega)]
      congr 2
      simp only [List.getD_eq_getElem?_getD]
      rw [List.getElem?_append_left (by omega)]
  show flatC _ Gs.length ++ _ = _
  rw [h1 _ (Nat.le_refl _)]
  congr 2
  simp
theorem NewJ.step {w wr w5 w6 : World} {tb cm : Nat} {v v' : Value} {Fs Gs : List FlatD} {j nC : Nat} {C : Int × Int → Option CallD} (h : NewJ w wr tb cm v Fs Gs j nC C) (f5 : Fr [] wr w5) {g : FlatD}
    (hg : FlatB w5 wr.heap.size w5.heap.size g) (hs : SameF (Fs.getD j default) g)
    (own : w6.ownsRow (tb + 1) 25 2 v' (j + 1) (flatC (fun i => (Gs.getD i default).cells) j ++ g.cells)) (gr : w5.grownBy w6 v.ownBlock) (hor : v'.ownBlock = v.ownBlock ∨ v'.ownBlock = some w5.heap.size) :
    NewJ w (w6.setCell ⟨tb, 0, none⟩ v') tb cm v' Fs (Gs ++ [g]) (j + 1) nC C := by
  have f56 : Fr v.ownBlock.toList w5 w6 := fr_grown gr
  have h5 := h.keep f5
  have hown : ∀ y, v.ownBlock = some y → tb + 1 ≤ y ∧ y < wr.heap.size := fun y hy => h.own.lt y hy
  have hnot : ∀ y, y ∈ v.ownBlock.toList → tb + 1 ≤ y ∧ y < wr.heap.size := fun y hy => hown y (by simpa using hy)
  have hv' : ∀ y, v'.ownBlock = some y → tb + 1 ≤ y := fun y hy => (own.lt y hy).1
  have htl := h.head.lt
  have hcmt := h.cmt
  have hlo := h.lo
  have fS : Fr [tb] w6 (w6.setCell ⟨tb, 0, none⟩ v') := (Fr.refl _ w6).setCell (.inl (by simp)) _
  have hsz := f56.size
  have hgB : ∀ b o, 0 < g.en → g.ea = some ⟨b, o, none⟩ → wr.heap.size ≤ b ∧ b < w5.heap.size := fun b o h0 he => by
    obtain ⟨b', o', he', _, h1, h2, _⟩ := hg.evs.at_ h0
    rw [he] at he'; cases he'; exact ⟨h1, h2⟩
  have hgT : ∀ b o, 0 < g.tn → g.ta = some ⟨b, o, none⟩ → wr.heap.size ≤ b ∧ b < w5.heap.size := fun b o h0 he => by
    obtain ⟨b', o', he', _, h1, h2, _⟩ := hg.ties.at_ h0
    rw [he] at he'; cases he'; exact ⟨h1, h2⟩
  have hga : g.apart v := ⟨fun b o h0 he hv => by have := hgB b o h0 he; have := hown b hv; omega, fun b o h0 he hv => by have := hgT b o h0 he; have := hown b hv; omega⟩
  have hfl : ∀ x ∈ Gs ++ [g], FlatB (w6.setCell ⟨tb, 0, none⟩ v') (tb + 1) (w6.setCell ⟨tb, 0, none⟩ v').heap.size x := by
    intro x hx
    have hx5 : FlatB w5 (tb + 1) w5.heap.size x ∧ x.apart v := by
      rcases List.mem_append.1 hx with hx | hx
      · exact ⟨h5.fl x hx, h.ap x hx⟩
      · obtain rfl := List.mem_singleton.1 hx
        exact ⟨hg.mono (by omega) (Nat.le_refl _), hga⟩
    have h6 := (hx5.1.frv hx5.2 f56).fr fS (fun y hy => by simp at hy; omega)
    exact h6.mono (Nat.le_refl _) (Nat.le_trans hsz fS.size)
  refine ⟨?_, h.lo, h.cmt, ?_, ?_, by simp [h.len], hfl, ?_, ?_, ?_⟩
  · refine ((h5.fr.trans f56 (fun y hy => by have := hnot y hy; exact .inr (by have := h.fr.size; omega))).trans fS (fun y hy => by simp at hy; exact .inr (by omega)))
  · exact (h5.head.fr f56 (fun hy => by have := hnot tb hy; omega)).setCell 0 v'
  · have e := flatC_snoc Gs g
    rw [h.len] at e
    rw [e]
    exact own_frS own fS (fun y hy => by have := hv' y hy; simp; omega)
  · intro x hx
    rcases hor with ho | ho
    · have ha : x.apart v := by
        rcases List.mem_append.1 hx with hx | hx
        · exact h.ap x hx
        · obtain rfl := List.mem_singleton.1 hx
          exact hga
      unfold FlatD.apart
      rw [ho]
      exact ha
    · unfold FlatD.apart
      rw [ho]
      have hx5 : FlatB w5 (tb + 1) w5.heap.size x := by
        rcases List.mem_append.1 hx with hx | hx
        · exact h5.fl x hx
        · obtain rfl := List.mem_singleton.1 hx
          exact hg.mono (by omega) (Nat.le_refl _)
      refine ⟨fun b o h0 he hb => ?_, fun b o h0 he hb => ?_⟩
      · obtain ⟨b', o', he', _, _, h2, _⟩ := hx5.evs.at_ h0
        rw [he] at he'; cases he'
        simp at hb; omega
      · obtain ⟨b', o', he', _, _, h2, _⟩ := hx5.ties.at_ h0
        rw [he] at he'; cases he'
        simp at hb; omega
  · intro i hi
    by_cases hij : i = j
    · subst hij
      have : (Gs ++ [g]).getD i default = g := by rw [← h.len]; simp [List.getD_eq_getElem?_getD]
      rw [this]
      exact hs
    · have : (Gs ++ [g]).getD i default = Gs.getD i default := by
        have := h.len
        simp only [List.getD_eq_getElem?_getD]
        rw [List.getElem?_append_left (by omega)]
      rw [this]
      exact h.same i (by omega)
  · exact (h5.map.fr f56 (fun hy => by have := hnot cm hy; omega)).fr fS (by simp; omega)
/-- The map grows. -/
theorem NewJ.call {w wr w5 : World} {tb cm : Nat} {v : Value} {Fs Gs : List FlatD} {j nC nC' : Nat} {C C' : Int × Int → Option CallD} (h : NewJ w wr tb cm v Fs Gs j nC C) (f : Fr [cm] wr w5) (hm : MapA pairK CallD.val w5 cm nC' C') : NewJ w w5 tb cm v Fs Gs j nC' C' := by
  have hcmt := h.cmt
  refine ⟨h.fr.trans f (fun y hy => by simp at hy; have := h.lo; exact .inr (by omega)), h.lo, h.cmt, h.head.fr f (by simp; omega), own_frS h.own f (fun y hy => by have := h.own.lt y hy; simp; omega), h.len, fun g hg => ((h.fl g hg).fr f (fun y hy => by simp at hy; omega)).mono (Nat.le_refl _) f.size, h.ap, h.same, hm⟩
/-- The tree ahead of its first instance. -/
theorem NewJ.tree {w wr : World} {tb cm : Nat} {v : Value} {Fs Gs : List FlatD} {j nC : Nat} {C : Int × Int → Option CallD} (h : NewJ w wr tb cm v Fs Gs j nC C) (hC : nC ≤ 1000) :
    ∃ a c, v = .slice a j c ∧ TreeAt wr tb wr.heap.size ⟨a, c, Gs, cm, C, .slice none 0 0, [], 0⟩ := by
  obtain ⟨a, c, h1, h2⟩ := rowsB_of_own (fun i => flatcells_len _) h.own
  refine ⟨a, c, h1, ⟨?_, ⟨?_, h.fl⟩, h.map.mono hC, h.cmt, h.head.lt, World.ownsRow_nil _ _ _ _, by simp, by simp, by simp, by simp, by simp, by simp, by simp⟩⟩
  · have := h.head
    rw [h1] at this
    show Row wr tb [.slice a Gs.length c, _, _, _] 120
    rw [h.len]
    exact this
  · show RowsB wr (tb + 1) wr.heap.size a Gs.length 2 _
    rw [h.len]
    exact h2
/-- A tree as New tells it. -/
structure NewT (p : ProgD) (T : TreeD) : Prop where
  len : T.Fs.length = p.Fs.length
  same : ∀ i, i < p.Fs.length → SameF (p.Fs.getD i default) (T.Fs.getD i default)
  C : T.C = callsM p.Cs p.Cs.length
  L : ∃ x, T.L = [x] ∧ x.plain = (0, 0, (T.Fs.getD 0 default).E.map startM, -1, -1)
  next : T.next = 1
def NewP (p : ProgD) (w : World) (e : Ending) (w' : World) : Prop :=
  (mayB p.Fs p.Cs = false ∧ e = .returned (.tuple #[.pointer none, .int .i64 1]) ∧ Fr [] w w') ∨
  (mayB p.Fs p.Cs = true ∧ ∃ tb hi T, e = .returned (.tuple #[.pointer (some ⟨tb, 0, none⟩), .int .i64 0]) ∧ NewT p T ∧ TreeAt w' tb hi T ∧ hi ≤ w'.heap.size ∧ w.heap.size ≤ tb ∧ w.heap.size ≤ T.cm ∧ (∀ g, T.mblk g → w.heap.size ≤ g) ∧ Fr [] w w')
end Go.Proofs.Ytclkahggfdnpgaa
set_option linter.unusedVariables false
set_option linter.unusedSimpArgs false
namespace Go.Proofs.Ytclkahggfdnpgaa
open Go.RowKit
theorem agg25 (w : World) : (isAgg 25).run Try.prog w = .ok true w := by kernel_rfl
theorem size25 : (Try.prog.info? 25).map (·.size) = some 2 := by kernel_rfl
theorem zero25 : (Try.prog.info? 25).map (fun i => (i.size, i.zero.map (·.cells.size))) = some (2, some 2) := by kernel_rfl
theorem ev_len (x : EvD) : x.cells.length = 6 := rfl
theorem ev_one (x : EvD) : ∀ v ∈ x.cells, v.oneCell' = true := by
  intro v hv
  unfold EvD.cells at hv
  simp at hv
  rcases hv with rfl | rfl | rfl | rfl | rfl | rfl <;> rfl
theorem tie_len (x : TieD) : x.cells.length = 4 := rfl
theorem tie_one (x : TieD) : ∀ v ∈ x.cells, v.oneCell' = true := by
  intro v hv
  unfold TieD.cells at hv
  simp at hv
  rcases hv with rfl | rfl | rfl | rfl <;> rfl
set_option maxHeartbeats 4000000 in
set_option maxRecDepth 100000 in
theorem new_any (p : ProgD) (w : World) (h : ProgAt w p) :
    Calls Try.prog 37 #[p.val] w (NewP p w) := by
  have HH := Lib.hid h
  have hfew := h.few
  have hfew2 := h.few2
  have FA := Lib.hid ((Fr.refl [] w).alloc (.cells #[.slice p.pa p.Fs.length p.pc, .slice p.ca p.Cs.length p.cc] 62))
  have RB := Lib.hid (Row.new w [.slice p.pa p.Fs.length p.pc, .slice p.ca p.Cs.length p.cc] 62)
  have CM := Lib.hid (fun w' f => may_any p w' (h.fr f))
  unfold ProgD.val at CM ⊢
  obtain ⟨pa, hpa0⟩ : ∃ a, a = p.pa := ⟨_, rfl⟩
  obtain ⟨ca, hca0⟩ : ∃ a, a = p.ca := ⟨_, rfl⟩
  rw [← hpa0, ← hca0] at CM FA RB ⊢
  have HPA := Lib.hid hpa0
  have HCA0 := Lib.hid hca0
  clear hpa0 hca0
  obtain ⟨n, hn⟩ : ∃ n, n = p.Fs.length := ⟨_, rfl⟩
  obtain ⟨m, hm⟩ : ∃ n, n = p.Cs.length := ⟨_, rfl⟩
  rw [← hn, ← hm] at CM FA RB ⊢
  rw [← hn] at hfew
  rw [← hm] at hfew2
  have HN := Lib.hid hn
  have HM := Lib.hid hm
  obtain ⟨mb, hmb⟩ : ∃ b, mayB p.Fs p.Cs = b := ⟨_, rfl⟩
  rw [hmb] at CM
  have HMB := Lib.hid hmb
  clear h hn hm hmb
  have C1 := CM.out _ FA.out
  go_enter Try.func37, Try.ntmps37
  go_wp2_with fail
  refine C1.mono ?_
  rintro e w1 ⟨rfl, hF1⟩
  have F1 := Lib.hid (FA.out.trans hF1 (by simp))
  have R1 := Lib.hid (RB.out.fr hF1 (by simp))
  clear hF1 C1 CM FA RB
  cases mb
  · go_wp2_with fail
    go_ret2
    exact .inl ⟨HMB.out, rfl, F1.out⟩
  have hmk : ∀ w, (Instr.makeMap 95 none).run Try.prog w = .ok (.map (some w.heap.size)) (w.alloc (.map #[] 0)) := fun w => rfl
  have r0 : w1.cell? ⟨w.heap.size, 0, none⟩ = some (.slice pa n p.pc) := R1.out.cell 0
  have l0 := World.block_lt_of_cell? w1 _ r0
  have HL0 := Lib.hid l0
  go_wp2_with fail
  obtain ⟨w2, hw2⟩ : ∃ w2, w2 = (w1.alloc (.map #[] 0)).alloc (.cells #[.slice none 0 0, .map (some w1.heap.size), .slice none 0 0, .int .i64 0] 120) := ⟨_, rfl⟩
  have hF2 : Fr [] w1 w2 := by rw [hw2]; exact ((Fr.refl [] w1).alloc _).alloc _
  have hN2 : NewJ w w2 (w1.heap.size + 1) w1.heap.size (.slice none 0 0) p.Fs [] 0 0 (fun _ => none) := by
    have h1 := Row.new (w1.alloc (.map #[] 0)) [.slice none 0 0, .map (some w1.heap.size), .slice none 0 0, .int .i64 0] 120
    have h2 := (MapA.made (K := pairK) (val := CallD.val) w1).fr ((Fr.refl [] (w1.alloc (.map #[] 0))).alloc (.cells #[.slice none 0 0, .map (some w1.heap.size), .slice none 0 0, .int .i64 0] 120)) (by simp)
    have hsz : (w1.alloc (.map #[] 0)).heap.size = w1.heap.size + 1 := by simp
    rw [hsz] at h1
    rw [hw2] at hF2 ⊢
    exact ⟨F1.out.trans hF2 (by simp), F1.out.size, by omega, h1, World.ownsRow_nil _ _ _ _, rfl, by simp, by simp, by omega, h2⟩
  rw [← hw2]
  have N2 := Lib.hid hN2
  have R2 := Lib.hid (R1.out.fr hF2 (by simp))
  have HCM := Lib.hid F1.out.size
  clear hw2 hF2 hN2 F1 R1 r0 l0
  generalize w1.heap.size = cm at *
  clear hmk
  go_loopg [6, 18] n (fun k u6 i wr => ∃ (j : Nat) (v : Value) (Gs : List FlatD), k = n - j ∧ j ≤ n ∧ i = .int .i64 j ∧ NewJ w wr (cm + 1) cm v p.Fs Gs j 0 (fun _ => none) ∧ Row wr w.heap.size [.slice pa n p.pc, .slice ca m p.cc] 62)
  case atStart => exact ⟨0, _, [], rfl, by omega, rfl, N2.out, R2.out⟩
  case round =>
    obtain ⟨j, v, Gs, rfl, hj, rfl, hN, hR⟩ := hrel
    have NJ := Lib.hid hN
    have RJ := Lib.hid hR
    clear hN hR
    by_cases hjn : j < n
    · have hd : decide (j < n) = true := decide_eq_true hjn
      obtain ⟨gt, ot, hpa, hgt, hct⟩ := (HH.out.rows.fr NJ.out.fr).at_ (by rw [← HN.out]; omega)
      have hcx := hct j (by rw [← HN.out]; exact hjn)
      obtain ⟨f, hf⟩ : ∃ f, p.Fs.getD j default = f := ⟨_, rfl⟩
      rw [hf] at hcx
      have HQ := Lib.hid hf
      have hff : FlatAt wr f := by rw [← hf]; exact (HH.out.flats _ (getD_memD _ _ (by rw [← HN.out]; exact hjn))).fr NJ.out.fr
      have FF := Lib.hid hff
      have hc' : ∀ k v, ([.slice f.ea f.en f.ec, .slice f.ta f.tn f.tc] : List Value)[k]? = some v → wr.cell? ⟨gt, ot + j * 2 + k, none⟩ = some v := hcx
      have HC := Lib.hid hc'
      have hpa2 := HPA.out.trans hpa
      subst hpa2
      obtain ⟨a, c, hv⟩ := NJ.out.form
      subst hv
      clear hcx hc' hct hf hpa hff hgt
      have c0 := RJ.out.cell 0
      go_wp2_with (first | ((with_reducible refine wpList_load_at rfl 25 (.tmp 20) rfl agg25 2 size25 gt (ot + j * 2) [.slice f.ea f.en f.ec, .slice f.ta f.tn f.tc] rfl HC.out ?_ ?_); exact rfl) | ((with_reducible refine wpList_var_agg rfl rfl 25 (.tmp 6) (.tmp 21) rfl rfl 2 zero25 [.slice f.ea f.en f.ec, .slice f.ta f.tn f.tc] rfl ?_ ?_ ?_ ?_); (intro u hu; simp at hu; rcases hu with rfl | rfl <;> rfl); exact rfl; exact rfl))
      intro w3 hr3 hs3 hf3
      have R3 := Lib.hid hr3
      have F3 := Lib.hid hf3
      have hlt3 : wr.heap.size < w3.heap.size := by omega
      have N3 := Lib.hid (NJ.out.keep hf3)
      have HO := Lib.hid (fun y (hy : (Value.slice a j c).ownBlock = some y) => NJ.out.own.lt y hy)
      have HTL := Lib.hid NJ.out.head.lt
      have KEEP := Lib.hid (fun W' (f' : Fr (Value.slice a j c).ownBlock.toList w3 W') => by
        have n1 : cm + 1 ∉ (Value.slice a j c).ownBlock.toList := fun hy => by have := (HO.out (cm + 1) (by simpa using hy)).1; omega
        have n2 : wr.heap.size ∉ (Value.slice a j c).ownBlock.toList := fun hy => by have := (HO.out wr.heap.size (by simpa using hy)).2; omega
        exact ⟨(N3.out.head.fr f' n1).cell 0, (R3.out.fr f' n2).cell 0, (R3.out.fr f' n2).cell 1⟩ : ∀ W', Fr (Value.slice a j c).ownBlock.toList w3 W' → (W'.cell? ⟨cm + 1, 0, none⟩ = some (.slice a j c) ∧ W'.cell? ⟨wr.heap.size, 0, none⟩ = some (.slice f.ea f.en f.ec) ∧ W'.cell? ⟨wr.heap.size, 1, none⟩ = some (.slice f.ta f.tn f.tc)))
      have D1 := Lib.hid (clone72_any f.ea f.en f.ec (fun i => (f.E.getD i default).cells) w3.drew (fun i => ev_len _) (fun i => ev_one _) FF.out.few ((FF.out.evs.2.fr hf3).fr ((Fr.refl [] w3).drew)))
      have D2 := Lib.hid (fun w' (f' : Fr [] w3 w') => clone73_any f.ta f.tn f.tc (fun i => (f.T.getD i default).cells) w' (fun i => tie_len _) (fun i => tie_one _) FF.out.few2 ((FF.out.ties.2.fr F3.out).fr f'))
      clear hr3 hs3 hf3 c0
      go_wp2_with fail
      refine wp_region_last (S := (fun W' => W'.cell? ⟨cm + 1, 0, none⟩ = some (.slice a j c) ∧ W'.cell? ⟨wr.heap.size, 0, none⟩ = some (.slice f.ea f.en f.ec) ∧ W'.cell? ⟨wr.heap.size, 1, none⟩ = some (.slice f.ta f.tn f.tc))) 16 (by kernel_rfl) (KEEP.out _ ((Fr.refl _ w3).drew)) (fun hHeld => ?_)
      refine wpAnyL_take (i := 0) (v := ?_) rfl (by kernel_rfl) (by kernel_rfl) (by kernel_rfl) (by kernel_rfl) (fun _ _ _ h => h) (Or.inl ⟨rfl, ?_⟩) hHeld ?_
      rotate_left
      · (intro w hSw; (try dsimp only at hSw); go_simp; try (with_reducible rfl))
      simp only [List.getElem_toArray, List.getElem_cons_succ, List.getElem_cons_zero, Act.put, List.setIfInBounds_toArray, List.set_cons_zero, List.set_cons_succ]
      refine wpAnyL_take (i := 1) (v := ?_) rfl (by kernel_rfl) (by kernel_rfl) (by kernel_rfl) (by kernel_rfl) (fun _ _ _ h => h) (Or.inl ⟨rfl, ?_⟩) hHeld ?_
      rotate_left
      · (intro w hSw; (try dsimp only at hSw); go_simp; try (with_reducible rfl))
      simp only [List.getElem_toArray, List.getElem_cons_succ, List.getElem_cons_zero, Act.put, List.setIfInBounds_toArray, List.set_cons_zero, List.set_cons_succ]
      refine wpAnyL_take (i := 2) (v := ?_) rfl (by kernel_rfl) (by kernel_rfl) (by kernel_rfl) (by kernel_rfl) (fun _ _ _ h => h) (Or.inl ⟨rfl, ?_⟩) hHeld ?_
      rotate_left
      · (intro w hSw; (try dsimp only at hSw); go_simp; try (with_reducible rfl))
      simp only [List.getElem_toArray, List.getElem_cons_succ, List.getElem_cons_zero, Act.put, List.setIfInBounds_toArray, List.set_cons_zero, List.set_cons_succ]
      refine wpAnyL_take (i := 3) (v := ?_) rfl (by kernel_rfl) (by kernel_rfl) (by kernel_rfl) (by kernel_rfl) (fun _ _ _ h => h) (Or.inl ⟨rfl, ?_⟩) hHeld ?_
      rotate_left
      · (intro w hSw; (try dsimp only at hSw); go_simp; try (with_reducible rfl))
      simp only [List.getElem_toArray, List.getElem_cons_succ, List.getElem_cons_zero, Act.put, List.setIfInBounds_toArray, List.set_cons_zero, List.set_cons_succ]
      refine wpAnyL_take (i := 4) (v := ?_) rfl (by kernel_rfl) (by kernel_rfl) (by kernel_rfl) (by kernel_rfl) (fun _ _ _ h => h) (Or.inl ⟨rfl, ?_⟩) hHeld ?_
      rotate_left
      · (intro w hSw; (try dsimp only at hSw); go_simp; try (with_reducible rfl))
      simp only [List.getElem_toArray, List.getElem_cons_succ, List.getElem_cons_zero, Act.put, List.setIfInBounds_toArray, List.set_cons_zero, List.set_cons_succ]
      refine wpAnyL_take (i := 5) (v := ?_) rfl (by kernel_rfl) (by kernel_rfl) (by kernel_rfl) (by kernel_rfl) (fun _ _ _ h => h) (Or.inl ⟨rfl, ?_⟩) hHeld ?_
      rotate_left
      · (intro w hSw; (try dsimp only at hSw); go_simp; try (with_reducible rfl))
      simp only [List.getElem_toArray, List.getElem_cons_succ, List.getElem_cons_zero, Act.put, List.setIfInBounds_toArray, List.set_cons_zero, List.set_cons_succ]
      refine wpAnyL_take (i := 6) (v := ?_) rfl (by kernel_rfl) (by kernel_rfl) (by kernel_rfl) (by kernel_rfl) (fun _ _ _ h => h) (Or.inl ⟨rfl, ?_⟩) hHeld ?_
      rotate_left
      · (intro w hSw; (try dsimp only at hSw); go_simp; try (with_reducible rfl))
      simp only [List.getElem_toArray, List.getElem_cons_succ, List.getElem_cons_zero, Act.put, List.setIfInBounds_toArray, List.set_cons_zero, List.set_cons_succ]
      refine wpAnyL_take (i := 8) (v := ?_) rfl (by kernel_rfl) (by kernel_rfl) (by kernel_rfl) (by kernel_rfl) (fun _ _ _ h => h) (Or.inl ⟨rfl, ?_⟩) hHeld ?_
      rotate_left
      · (intro w hSw; (try dsimp only at hSw); go_simp; try (with_reducible rfl))
      simp only [List.getElem_toArray, List.getElem_cons_succ, List.getElem_cons_zero, Act.put, List.setIfInBounds_toArray, List.set_cons_zero, List.set_cons_succ]
      refine wpAnyL_take (i := 9) (v := ?_) rfl (by kernel_rfl) (by kernel_rfl) (by kernel_rfl) (by kernel_rfl) (fun _ _ _ h => h) (Or.inl ⟨rfl, ?_⟩) hHeld ?_
      rotate_left
      · (intro w hSw; (try dsimp only at hSw); go_simp; try (with_reducible rfl))
      simp only [List.getElem_toArray, List.getElem_cons_succ, List.getElem_cons_zero, Act.put, List.setIfInBounds_toArray, List.set_cons_zero, List.set_cons_succ]
      refine wpAnyL_ready (rs := [7]) (by kernel_rfl) (by simp) ?_
      refine AllReadyL.cons rfl (fun K hK => ?_) AllReadyL.nil
      simp only [List.getElem_toArray, List.getElem_cons_succ, List.getElem_cons_zero]
      go_simp
      go_wp2_with (first | (go_at_call 72; refine D1.out.mono ?_; rintro e w4 ⟨a4, c4, rfl, hR4, hF4⟩))
      refine hK.out _ _ (KEEP.out _ (((Fr.refl _ w3).drew).trans hF4 (by simp))) (fun hHeld => ?_)
      clear hK K
      try simp only [List.getElem_toArray, List.getElem_cons_succ, List.getElem_cons_zero, Act.put, List.setIfInBounds_toArray, List.set_cons_zero, List.set_cons_succ]
      have F4 := Lib.hid (((Fr.refl [] w3).drew).trans hF4 (by simp))
      have R4 := Lib.hid hR4
      clear hR4 hF4
      refine wpAnyL_ready (rs := [10]) (by kernel_rfl) (by simp) ?_
      refine AllReadyL.cons rfl (fun K hK => ?_) AllReadyL.nil
      simp only [List.getElem_toArray, List.getElem_cons_succ, List.getElem_cons_zero]
      go_simp
      go_wp2_with (first | (go_at_call 73; refine (D2.out _ F4.out).mono ?_; rintro e w5 ⟨a5, c5, rfl, hR5, hF5⟩))
      refine hK.out _ _ (KEEP.out _ ((F4.out.trans hF5 (by simp)).mono (by simp))) (fun hHeld => ?_)
      clear hK K
      try simp only [List.getElem_toArray, List.getElem_cons_succ, List.getElem_cons_zero, Act.put, List.setIfInBounds_toArray, List.set_cons_zero, List.set_cons_succ]
      have F5 := Lib.hid (F4.out.trans hF5 (by simp))
      have F45 := Lib.hid hF5
      have R5 := Lib.hid hR5
      clear hR5 hF5
      refine wpAnyL_take (i := 11) (v := ?_) rfl (by kernel_rfl) (by kernel_rfl) (by kernel_rfl) (by kernel_rfl) (fun _ _ _ h => h) (Or.inl ⟨rfl, ?_⟩) hHeld ?_
      rotate_left
      · (intro w hSw; (try dsimp only at hSw); go_simp; try (with_reducible rfl))
      simp only [List.getElem_toArray, List.getElem_cons_succ, List.getElem_cons_zero, Act.put, List.setIfInBounds_toArray, List.set_cons_zero, List.set_cons_succ]
      refine wpAnyL_ready (rs := [12]) (by kernel_rfl) (by simp) ?_
      refine AllReadyL.cons rfl (fun K hK => ?_) AllReadyL.nil
      simp only [List.getElem_toArray, List.getElem_cons_succ, List.getElem_cons_zero]
      go_simp
      refine hK.out _ _ (KEEP.out _ ((F5.out.mono (by simp)).alloc _)) (fun hHeld => ?_)
      clear hK K
      try simp only [List.getElem_toArray, List.getElem_cons_succ, List.getElem_cons_zero, Act.put, List.setIfInBounds_toArray, List.set_cons_zero, List.set_cons_succ]
      have f56 : Fr [] w5 (w5.alloc (.cells #[.slice a4 f.en c4, .slice a5 f.tn c5] 25)) := (Fr.refl [] w5).alloc _
      have hnew : ∀ j u, ([.slice a4 f.en c4, .slice a5 f.tn c5] : List Value)[j]? = some u → (w5.alloc (.cells #[.slice a4 f.en c4, .slice a5 f.tn c5] 25)).cell? ((⟨w5.heap.size, 0, none⟩ : Addr).add j) = some u := by
        intro i u hi
        rw [Addr_add, Nat.zero_add]
        exact ((Row.new w5 [.slice a4 f.en c4, .slice a5 f.tn c5] 25).cell i).trans hi
      have NW := Lib.hid hnew
      have F6 := Lib.hid (F5.out.trans f56 (by simp))
      have F36 := Lib.hid ((F3.out.trans F5.out (by simp)).trans f56 (by simp))
      have hGB : FlatB (w5.alloc (.cells #[.slice a4 f.en c4, .slice a5 f.tn c5] 25)) wr.heap.size (w5.alloc (.cells #[.slice a4 f.en c4, .slice a5 f.tn c5] 25)).heap.size ⟨a4, f.en, c4, a5, f.tn, c5, f.E, f.T⟩ := by
        have s3 := F3.out.size
        have s4 := F4.out.size
        have s5 := F45.out.size
        have s6 := f56.size
        have e3 : w3.drew.heap.size = w3.heap.size := rfl
        refine ⟨FF.out.evs.1, FF.out.ties.1, ?_, ?_, FF.out.few, FF.out.few2⟩
        · exact ((R4.out.fr F45.out (by simp)).fr f56 (by simp)).mono (by omega) (by omega)
        · exact (R5.out.fr f56 (by simp)).mono (by omega) (by omega)
      have GB := Lib.hid hGB
      have OWN6 := Lib.hid (own_frS NJ.out.own F36.out (by simp))
      have hs6 : cm + 1 + 1 ≤ (w5.alloc (.cells #[.slice a4 f.en c4, .slice a5 f.tn c5] 25)).heap.size := by have := F36.out.size; have := HTL.out; omega
      have hb5 : ∃ b, b = w5.heap.size := ⟨_, rfl⟩
      obtain ⟨b5, hb5⟩ := hb5
      rw [← hb5] at NW ⊢
      clear f56 hnew hGB R4 R5 F45 F5 F4 hb5
      generalize w5.alloc (.cells #[.slice a4 f.en c4, .slice a5 f.tn c5] 25) = w6 at *
      refine wpAnyL_ready (rs := [13]) (by kernel_rfl) (by simp) ?_
      refine AllReadyL.cons rfl (fun K hK => ?_) AllReadyL.nil
      refine step_append_rows rfl (.tmp 26) (.tmp 34) 59 25 2 48 rfl Try.underlying59 (by kernel_rfl) (by decide) (by decide) (cm + 1 + 1) (.slice a j c) j _ rfl OWN6.out _ 1 1 [.slice a4 f.en c4, .slice a5 f.tn c5] rfl rfl NW.out (by simp [Value.oneCell']) (by omega) (by omega) ?_
      intro v7 w7 hown7 hgr7 hor7
      have F7 := Lib.hid ((F6.out.mono (by simp)).trans (fr_grown hgr7) (fun y hy => .inl hy) : Fr (Value.slice a j c).ownBlock.toList w3 w7)
      refine hK.out _ _ (KEEP.out _ F7.out) (fun hHeld => ?_)
      clear hK K
      try simp only [List.getElem_toArray, List.getElem_cons_succ, List.getElem_cons_zero, Act.put, List.setIfInBounds_toArray, List.set_cons_zero, List.set_cons_succ]
      obtain ⟨g7, cap7, hv7, hg7, _⟩ := hown7.form (by omega)
      have HN8 := Lib.hid (NJ.out.step F36.out GB.out (by rw [HQ.out]; exact ⟨rfl, rfl, rfl, rfl⟩) hown7 hgr7 hor7)
      have rd7 : Row w7 (cm + 1) [.slice a j c, .map (some cm), .slice none 0 0, .int .i64 0] 120 := N3.out.head.fr F7.out (fun hy => by have := (HO.out (cm + 1) (by simpa using hy)).1; omega)
      have rb7 : Row w7 w.heap.size [.slice (some ⟨gt, ot, none⟩) n p.pc, .slice ca m p.cc] 62 := (RJ.out.fr F3.out (by simp)).fr F7.out (fun hy => by have := (HO.out w.heap.size (by simpa using hy)).1; have := HL0.out; omega)
      have RD7 := Lib.hid rd7
      have RB7 := Lib.hid rb7
      subst hv7
      clear hgr7 hor7 hown7 rd7 rb7
      refine wpAnyL_ready (rs := [14]) (by kernel_rfl) (by simp) ?_
      refine AllReadyL.cons rfl (fun K hK => ?_) AllReadyL.nil
      simp only [List.getElem_toArray, List.getElem_cons_succ, List.getElem_cons_zero]
      go_simp
      refine hK.out _ _ (hHeld) (fun hHeld => ?_)
      clear hK K
      try simp only [List.getElem_toArray, List.getElem_cons_succ, List.getElem_cons_zero, Act.put, List.setIfInBounds_toArray, List.set_cons_zero, List.set_cons_succ]
      refine wpAnyL_take (i := 15) (v := ?_) rfl (by kernel_rfl) (by kernel_rfl) (by kernel_rfl) (by kernel_rfl) (fun _ _ _ h => h) (Or.inl ⟨rfl, ?_⟩) hHeld ?_
      rotate_left
      · (intro w hSw; (try dsimp only at hSw); go_simp; try (with_reducible rfl))
      simp only [List.getElem_toArray, List.getElem_cons_succ, List.getElem_cons_zero, Act.put, List.setIfInBounds_toArray, List.set_cons_zero, List.set_cons_succ]
      have z7 := hHeld.1
      have y7 : w7.frozen? ⟨cm + 1, 0, none⟩ = false := RD7.out.frozen 0
      refine wpAnyL_ready (rs := [16]) (by kernel_rfl) (by simp) ?_
      refine AllReadyL.end_ rfl (fun K hK => ?_)
      simp only [List.getElem_toArray, List.getElem_cons_succ, List.getElem_cons_zero]
      go_simp
      refine hK.out _ _ ?_
      clear hK K
      try simp only [List.getElem_toArray, List.getElem_cons_succ, List.getElem_cons_zero, Act.put, List.setIfInBounds_toArray, List.set_cons_zero, List.set_cons_succ]
      refine wpAnyL_done (by kernel_rfl) ?_ _
      have RB8 := Lib.hid (RB7.out.setCell_other ⟨cm + 1, 0, none⟩ (.slice (some ⟨g7, 0, none⟩) (j + 1) cap7) (by have := HL0.out; show w.heap.size ≠ cm + 1; omega))
      clear KEEP D1 D2 HO hHeld z7 y7
      generalize w7.setCell ⟨cm + 1, 0, none⟩ (.slice (some ⟨g7, 0, none⟩) (j + 1) cap7) = w8 at *
      go_wp2_with fail
      go_roundg (n - (j + 1))
      case measure => omega
      case rel => exact ⟨j + 1, _, _, rfl, by omega, rfl, HN8.out, RB8.out⟩
    · have hd : decide (j < n) = false := decide_eq_false hjn
      have hjm : j = n := by omega
      subst hjm
      have r1 : wr.cell? ⟨w.heap.size, 1, none⟩ = some (.slice ca m p.cc) := RJ.out.cell 1
      clear N2 R2
      go_wp2_with fail
      go_loopg [8, 42] m (fun k u8 i wx => ∃ q : Nat, k = m - q ∧ q ≤ m ∧ i = .int .i64 q ∧ NewJ w wx (cm + 1) cm v p.Fs Gs j q (callsM p.Cs q))
      case atStart => exact ⟨0, rfl, by omega, rfl, NJ.out⟩
      case round =>
        obtain ⟨q, rfl, hq, rfl, hN⟩ := hrel
        have NQ := Lib.hid hN
        clear hN
        by_cases hqm : q < m
        · have hd2 : decide (q < m) = true := decide_eq_true hqm
          obtain ⟨gt, ot, hca, hgt, hct⟩ := (HH.out.calls.fr NQ.out.fr).at_ (by rw [← HM.out]; omega)
          have hcx := hct q (by rw [← HM.out]; exact hqm)
          obtain ⟨d, hdd⟩ : ∃ d, p.Cs.getD q default = d := ⟨_, rfl⟩
          rw [hdd] at hcx
          have HQ := Lib.hid hdd
          have hc' : ∀ k v, ([.int .i64 d.of_, .int .i64 d.at_, .int .i64 d.to_, .bool d.many] : List Value)[k]? = some v → wr.cell? ⟨gt, ot + q * 4 + k, none⟩ = some v := hcx
          have HC := Lib.hid hc'
          have hca2 := HCA0.out.trans hca
          subst hca2
          clear hcx hc' hct hdd hca hgt
          go_wp2_with (first | ((with_reducible refine wpList_load_at rfl 97 (.tmp 44) rfl agg97 4 size97 gt (ot + q * 4) [.int .i64 d.of_, .int .i64 d.at_, .int .i64 d.to_, .bool d.many] rfl HC.out ?_ ?_); exact rfl) | ((with_reducible refine wpList_var_agg rfl rfl 97 (.tmp 8) (.tmp 45) rfl rfl 4 zero97 [.int .i64 d.of_, .int .i64 d.at_, .int .i64 d.to_, .bool d.many] rfl ?_ ?_ ?_ ?_); (intro u hu; simp at hu; rcases hu with rfl | rfl | rfl | rfl <;> rfl); exact rfl; exact rfl))
          intro w3 hr3 hs3 hf3
          have R3 := Lib.hid hr3
          have N3 := Lib.hid (NQ.out.keep hf3)
          have hTL := NQ.out.head.lt
          have KEEP := Lib.hid (fun W' (f' : Fr [] w3 W') =>
            ⟨(N3.out.head.fr f' (by simp)).cell 1, (R3.out.fr f' (by simp)).cell 0, (R3.out.fr f' (by simp)).cell 1, (R3.out.fr f' (by simp)).cell 2, (R3.out.fr f' (by simp)).cell 3⟩ : ∀ W', Fr [] w3 W' → (W'.cell? ⟨cm + 1, 1, none⟩ = some (.map (some cm)) ∧ W'.cell? ⟨wr.heap.size, 0, none⟩ = some (.int .i64 d.of_) ∧ W'.cell? ⟨wr.heap.size, 1, none⟩ = some (.int .i64 d.at_) ∧ W'.cell? ⟨wr.heap.size, 2, none⟩ = some (.int .i64 d.to_) ∧ W'.cell? ⟨wr.heap.size, 3, none⟩ = some (.bool d.many)))
          clear hr3 hs3 hf3
          go_wp2_with fail
          refine wp_region_last (S := (fun W' => W'.cell? ⟨cm + 1, 1, none⟩ = some (.map (some cm)) ∧ W'.cell? ⟨wr.heap.size, 0, none⟩ = some (.int .i64 d.of_) ∧ W'.cell? ⟨wr.heap.size, 1, none⟩ = some (.int .i64 d.at_) ∧ W'.cell? ⟨wr.heap.size, 2, none⟩ = some (.int .i64 d.to_) ∧ W'.cell? ⟨wr.heap.size, 3, none⟩ = some (.bool d.many))) 10 (by kernel_rfl) (KEEP.out _ ((Fr.refl _ w3).drew)) (fun hHeld => ?_)
          refine wpAnyL_take (i := 0) (v := ?_) rfl (by kernel_rfl) (by kernel_rfl) (by kernel_rfl) (by kernel_rfl) (fun _ _ _ h => h) (Or.inl ⟨rfl, ?_⟩) hHeld ?_
          rotate_left
          · (intro w hSw; (try dsimp only at hSw); go_simp; try (with_reducible rfl))
          simp only [List.getElem_toArray, List.getElem_cons_succ, List.getElem_cons_zero, Act.put, List.setIfInBounds_toArray, List.set_cons_zero, List.set_cons_succ]
          refine wpAnyL_take (i := 1) (v := ?_) rfl (by kernel_rfl) (by kernel_rfl) (by kernel_rfl) (by kernel_rfl) (fun _ _ _ h => h) (Or.inl ⟨rfl, ?_⟩) hHeld ?_
          rotate_left
          · (intro w hSw; (try dsimp only at hSw); go_simp; try (with_reducible rfl))
          simp only [List.getElem_toArray, List.getElem_cons_succ, List.getElem_cons_zero, Act.put, List.setIfInBounds_toArray, List.set_cons_zero, List.set_cons_succ]
          refine wpAnyL_take (i := 2) (v := ?_) rfl (by kernel_rfl) (by kernel_rfl) (by kernel_rfl) (by kernel_rfl) (fun _ _ _ h => h) (Or.inl ⟨rfl, ?_⟩) hHeld ?_
          rotate_left
          · (intro w hSw; (try dsimp only at hSw); go_simp; try (with_reducible rfl))
          simp only [List.getElem_toArray, List.getElem_cons_succ, List.getElem_cons_zero, Act.put, List.setIfInBounds_toArray, List.set_cons_zero, List.set_cons_succ]
          refine wpAnyL_take (i := 3) (v := ?_) rfl (by kernel_rfl) (by kernel_rfl) (by kernel_rfl) (by kernel_rfl) (fun _ _ _ h => h) (Or.inl ⟨rfl, ?_⟩) hHeld ?_
          rotate_left
          · (intro w hSw; (try dsimp only at hSw); go_simp; try (with_reducible rfl))
          simp only [List.getElem_toArray, List.getElem_cons_succ, List.getElem_cons_zero, Act.put, List.setIfInBounds_toArray, List.set_cons_zero, List.set_cons_succ]
          refine wpAnyL_take (i := 4) (v := ?_) rfl (by kernel_rfl) (by kernel_rfl) (by kernel_rfl) (by kernel_rfl) (fun _ _ _ h => h) (Or.inl ⟨rfl, ?_⟩) hHeld ?_
          rotate_left
          · (intro w hSw; (try dsimp only at hSw); go_simp; try (with_reducible rfl))
          simp only [List.getElem_toArray, List.getElem_cons_succ, List.getElem_cons_zero, Act.put, List.setIfInBounds_toArray, List.set_cons_zero, List.set_cons_succ]
          refine wpAnyL_take (i := 5) (v := ?_) rfl (by kernel_rfl) (by kernel_rfl) (by kernel_rfl) (by kernel_rfl) (fun _ _ _ h => h) (Or.inl ⟨rfl, ?_⟩) hHeld ?_
          rotate_left
          · (intro w hSw; (try dsimp only at hSw); go_simp; try (with_reducible rfl))
          simp only [List.getElem_toArray, List.getElem_cons_succ, List.getElem_cons_zero, Act.put, List.setIfInBounds_toArray, List.set_cons_zero, List.set_cons_succ]
          refine wpAnyL_take (i := 6) (v := ?_) rfl (by kernel_rfl) (by kernel_rfl) (by kernel_rfl) (by kernel_rfl) (fun _ _ _ h => h) (Or.inl ⟨rfl, ?_⟩) hHeld ?_
          rotate_left
          · (intro w hSw; (try dsimp only at hSw); go_simp; try (with_reducible rfl))
          simp only [List.getElem_toArray, List.getElem_cons_succ, List.getElem_cons_zero, Act.put, List.setIfInBounds_toArray, List.set_cons_zero, List.set_cons_succ]
          refine wpAnyL_take (i := 7) (v := ?_) rfl (by kernel_rfl) (by kernel_rfl) (by kernel_rfl) (by kernel_rfl) (fun _ _ _ h => h) (Or.inl ⟨rfl, ?_⟩) hHeld ?_
          rotate_left
          · (intro w hSw; (try dsimp only at hSw); go_simp; try (with_reducible rfl))
          simp only [List.getElem_toArray, List.getElem_cons_succ, List.getElem_cons_zero, Act.put, List.setIfInBounds_toArray, List.set_cons_zero, List.set_cons_succ]
          refine wpAnyL_take (i := 8) (v := ?_) rfl (by kernel_rfl) (by kernel_rfl) (by kernel_rfl) (by kernel_rfl) (fun _ _ _ h => h) (Or.inl ⟨rfl, ?_⟩) hHeld ?_
          rotate_left
          · (intro w hSw; (try dsimp only at hSw); go_simp; try (with_reducible rfl))
          simp only [List.getElem_toArray, List.getElem_cons_succ, List.getElem_cons_zero, Act.put, List.setIfInBounds_toArray, List.set_cons_zero, List.set_cons_succ]
          refine wpAnyL_take (i := 9) (v := ?_) rfl (by kernel_rfl) (by kernel_rfl) (by kernel_rfl) (by kernel_rfl) (fun _ _ _ h => h) (Or.inl ⟨rfl, ?_⟩) hHeld ?_
          rotate_left
          · (intro w hSw; (try dsimp only at hSw); go_simp; try (with_reducible rfl))
          simp only [List.getElem_toArray, List.getElem_cons_succ, List.getElem_cons_zero, Act.put, List.setIfInBounds_toArray, List.set_cons_zero, List.set_cons_succ]
          obtain ⟨w5, hrun, hm5, hf5⟩ := (N3.out.map.fr ((Fr.refl [] w3).drew) (by simp)).store (t := 95) Try.underlying98 Try.underlying95 d.key d
          have hrun' : (Instr.mapUpdate 95 (.map (some cm)) (.agg #[.int .i64 d.of_, .int .i64 d.at_]) (.agg #[.int .i64 d.of_, .int .i64 d.at_, .int .i64 d.to_, .bool d.many])).run Try.prog w3.drew = .ok () w5 := hrun
          refine wpAnyL_ready (rs := [10]) (by kernel_rfl) (by simp) ?_
          refine AllReadyL.end_ rfl (fun K hK => ?_)
          simp only [List.getElem_toArray, List.getElem_cons_succ, List.getElem_cons_zero]
          go_simp
          refine hK.out _ _ ?_
          clear hK K
          try simp only [List.getElem_toArray, List.getElem_cons_succ, List.getElem_cons_zero, Act.put, List.setIfInBounds_toArray, List.set_cons_zero, List.set_cons_succ]
          refine wpAnyL_done (by kernel_rfl) ?_ _
          have N5 := Lib.hid ((N3.out.keep ((Fr.refl [] w3).drew)).call hf5 hm5)
          have e : callsM p.Cs (q + 1) = fun y => if y = d.key then some d else callsM p.Cs q y := by rw [← HQ.out]; rfl
          rw [← e] at N5
          clear KEEP hHeld hrun hrun' hm5 hf5 e
          go_wp2_with fail
          go_roundg (m - (q + 1))
          case measure => omega
          case rel => exact ⟨q + 1, rfl, by omega, rfl, N5.out⟩
        · have hd2 : decide (q < m) = false := decide_eq_false hqm
          have hqm2 : q = m := by omega
          subst hqm2
          obtain ⟨a, c, hv, hT⟩ := NQ.out.tree (by omega)
          have h1 : 0 < Gs.length := by
            have := HMB.out
            unfold mayB at this
            simp only [Bool.and_eq_true, decide_eq_true_iff] at this
            rw [NQ.out.len, HN.out]
            omega
          obtain ⟨f0, hf0⟩ : ∃ f, Gs.getD 0 default = f := ⟨_, rfl⟩
          have C9 := spawn_any (cm + 1) wr.heap.size ⟨a, c, Gs, cm, callsM p.Cs q, .slice none 0 0, [], 0⟩ 0 (-1) (-1) f0 wr hT h1 hf0 (Nat.le_refl _) (by show 0 ≤ 900; omega) (by show 0 < 40; omega)
          have HF0 := Lib.hid hf0
          have HLEN := Lib.hid NQ.out.len
          clear hT hv h1 hf0 r1
          change Calls Try.prog 74 #[.pointer (some ⟨cm + 1, 0, none⟩), .int .i64 0, .int .i64 (-1), .int .i64 (-1)] _ _ at C9
          go_wp2_with fail
          refine C9.mono ?_
          rintro e w9 ⟨rfl, v9, x9, hx9, hN9⟩
          have HX9 := Lib.hid hx9
          have HN9 := Lib.hid hN9
          clear hx9 hN9 C9
          go_wp2_with fail
          go_ret2
          refine .inr ⟨HMB.out, cm + 1, wr.heap.size, _, rfl, ⟨?_, fun i hi => ?_, ?_, ⟨x9, rfl, ?_⟩, rfl⟩, HN9.out.1, HN9.out.2.1.size, by have := HCM.out; omega, HCM.out, fun g hg => ?_, ?_⟩
          · show Gs.length = _
            rw [HLEN.out, HN.out]
          · exact NQ.out.same i (by rw [HN.out]; exact hi)
          · show callsM p.Cs q = _
            rw [HM.out]
          · rw [HX9.out]
            show (_, _, _, _, _) = (_, _, _, _, _)
            rw [← HF0.out]
            rfl
          · rcases HN9.out.2.2.2.2 g hg with ⟨x, hx, _⟩ | h1
            · cases hx
            · exact Nat.le_trans NQ.out.fr.size h1
          · exact NQ.out.fr.trans HN9.out.2.1 (fun y hy => by
              have : y = cm + 1 := by simpa [TreeD.blocks, Value.ownBlock] using hy
              have := HCM.out
              exact .inr (by omega))
end Go.Proofs.Ytclkahggfdnpgaa

/- The tree: what New lays, step by step. Plain. -/
import Derived.Test.YtclkahggfdnpgaaTr14
set_option linter.unusedVariables false
set_option linter.unusedSimpArgs false
namespace Go.Proofs.Ytclkahggfdnpgaa
open Go.RowKit
structure SameF (f g : FlatD) : Prop where
  E : g.E = f.E
  T : g.T = f.T
  en : g.en = f.en
  tn : g.tn = f.tn
theorem SameF.refl (f : FlatD) : SameF f f := ⟨rfl, rfl, rfl, rfl⟩
theorem SameF.trans {f g h : FlatD} (a : SameF f g) (b : SameF g h) : SameF f h := ⟨b.E.trans a.E, b.T.trans a.T, b.en.trans a.en, b.tn.trans a.tn⟩
theorem SameF.symm {f g : FlatD} (a : SameF f g) : SameF g f := ⟨a.E.symm, a.T.symm, a.en.symm, a.tn.symm⟩
def callsM (Cs : List CallD) : Nat → Int × Int → Option CallD
  | 0, _ => none
  | j + 1, y => if y = (Cs.getD j default).key then some (Cs.getD j default) else callsM Cs j y
def FlatD.apart (v : Value) (g : FlatD) : Prop := (∀ b o, 0 < g.en → g.ea = some ⟨b, o, none⟩ → v.ownBlock ≠ some b) ∧ (∀ b o, 0 < g.tn → g.ta = some ⟨b, o, none⟩ → v.ownBlock ≠ some b)
theorem flatcells_len (f : FlatD) : f.cells.length = 2 := rfl
/-- The first j templates are cloned. -/
structure NewJ (w wr : World) (tb cm : Nat) (v : Value) (Fs Gs : List FlatD) (j nC : Nat) (C : Int × Int → Option CallD) : Prop where
  fr : Fr [] w wr
  lo : w.heap.size ≤ cm
  cmt : cm < tb
  head : Row wr tb [v, .map (some cm), .slice none 0 0, .int .i64 0] 120
  own : wr.ownsRow (tb + 1) 25 2 v j (flatC (fun i => (Gs.getD i default).cells) j)
  len : Gs.length = j
  fl : ∀ g ∈ Gs, FlatB wr (tb + 1) wr.heap.size g
  ap : ∀ g ∈ Gs, g.apart v
  same : ∀ i, i < j → SameF (Fs.getD i default) (Gs.getD i default)
  map : MapA pairK CallD.val wr cm nC C
theorem NewJ.keep {w wr w' : World} {tb cm : Nat} {v : Value} {Fs Gs : List FlatD} {j nC : Nat} {C : Int × Int → Option CallD} (h : NewJ w wr tb cm v Fs Gs j nC C) (f : Fr [] wr w') : NewJ w w' tb cm v Fs Gs j nC C :=
  ⟨h.fr.trans f (by simp), h.lo, h.cmt, h.head.fr f (by simp), own_frS h.own f (by simp), h.len, fun g hg => ((h.fl g hg).fr f (by simp)).mono (Nat.le_refl _) f.size, h.ap, h.same, h.map.fr f (by simp)⟩
theorem NewJ.form {w wr : World} {tb cm : Nat} {v : Value} {Fs Gs : List FlatD} {j nC : Nat} {C : Int × Int → Option CallD} (h : NewJ w wr tb cm v Fs Gs j nC C) : ∃ a c, v = .slice a j c := by
  obtain ⟨a, c, h1, _⟩ := rowsB_of_own (fun i => flatcells_len _) h.own
  exact ⟨a, c, h1⟩
/-- A graph's blocks stay where the own row grows. -/
theorem RowsB.frv {w w' : World} {lo hi : Nat} {a : Option Addr} {n k : Nat} {C : Nat → List Value} {S : List Nat} (h : RowsB w lo hi a n k C) (f : Fr S w w') (hS : ∀ b o, 0 < n → a = some ⟨b, o, none⟩ → b ∉ S) : RowsB w' lo hi a n k C := by
  refine ⟨fun h0 => ?_⟩
  obtain ⟨b, o, rfl, hb, h1, h2, hc⟩ := h.at_ h0
  refine ⟨b, o, rfl, Nat.lt_of_lt_of_le hb f.size, h1, h2, fun i hi j v hj => ?_⟩
  rw [World.cell?_of_block (f.block b hb (hS b o h0 rfl))]
  exact hc i hi j v hj
theorem FlatB.frv {w w' : World} {lo hi : Nat} {g : FlatD} {v : Value} (h : FlatB w lo hi g) (ha : g.apart v) (f : Fr v.ownBlock.toList w w') : FlatB w' lo hi g :=
  ⟨h.el, h.tl, h.evs.frv f (fun b o h0 he hb => ha.1 b o h0 he (by simpa using hb)), h.ties.frv f (fun b o h0 he hb => ha.2 b o h0 he (by simpa using hb)), h.few, h.few2⟩
theorem flatC_snoc (Gs : List FlatD) (g : FlatD) : flatC (fun i => ((Gs ++ [g]).getD i default).cells) (Gs.length + 1) = flatC (fun i => (Gs.getD i default).cells) Gs.length ++ g.cells := by
  have h1 : ∀ n, n ≤ Gs.length → flatC (fun i => ((Gs ++ [g]).getD i default).cells) n = flatC (fun i => (Gs.getD i default).cells) n := by
    intro n
    induction n with
    | zero => intro _; rfl
    | succ n ih =>
      intro hn
      show flatC _ n ++ _ = flatC _ n ++ _
      rw [ih (by omega)]
      congr 2
      simp only [List.getD_eq_getElem?_getD]
      rw [List.getElem?_append_left (by omega)]
  show flatC _ Gs.length ++ _ = _
  rw [h1 _ (Nat.le_refl _)]
  congr 2
  simp
theorem NewJ.step {w wr w5 w6 : World} {tb cm : Nat} {v v' : Value} {Fs Gs : List FlatD} {j nC : Nat} {C : Int × Int → Option CallD} (h : NewJ w wr tb cm v Fs Gs j nC C) (f5 : Fr [] wr w5) {g : FlatD}
    (hg : FlatB w5 wr.heap.size w5.heap.size g) (hs : SameF (Fs.getD j default) g)
    (own : w6.ownsRow (tb + 1) 25 2 v' (j + 1) (flatC (fun i => (Gs.getD i default).cells) j ++ g.cells)) (gr : w5.grownBy w6 v.ownBlock) (hor : v'.ownBlock = v.ownBlock ∨ v'.ownBlock = some w5.heap.size) :
    NewJ w (w6.setCell ⟨tb, 0, none⟩ v') tb cm v' Fs (Gs ++ [g]) (j + 1) nC C := by
  have f56 : Fr v.ownBlock.toList w5 w6 := fr_grown gr
  have h5 := h.keep f5
  have hown : ∀ y, v.ownBlock = some y → tb + 1 ≤ y ∧ y < wr.heap.size := fun y hy => h.own.lt y hy
  have hnot : ∀ y, y ∈ v.ownBlock.toList → tb + 1 ≤ y ∧ y < wr.heap.size := fun y hy => hown y (by simpa using hy)
  have hv' : ∀ y, v'.ownBlock = some y → tb + 1 ≤ y := fun y hy => (own.lt y hy).1
  have htl := h.head.lt
  have hcmt := h.cmt
  have hlo := h.lo
  have fS : Fr [tb] w6 (w6.setCell ⟨tb, 0, none⟩ v') := (Fr.refl _ w6).setCell (.inl (by simp)) _
  have hsz := f56.size
  have hgB : ∀ b o, 0 < g.en → g.ea = some ⟨b, o, none⟩ → wr.heap.size ≤ b ∧ b < w5.heap.size := fun b o h0 he => by
    obtain ⟨b', o', he', _, h1, h2, _⟩ := hg.evs.at_ h0
    rw [he] at he'; cases he'; exact ⟨h1, h2⟩
  have hgT : ∀ b o, 0 < g.tn → g.ta = some ⟨b, o, none⟩ → wr.heap.size ≤ b ∧ b < w5.heap.size := fun b o h0 he => by
    obtain ⟨b', o', he', _, h1, h2, _⟩ := hg.ties.at_ h0
    rw [he] at he'; cases he'; exact ⟨h1, h2⟩
  have hga : g.apart v := ⟨fun b o h0 he hv => by have := hgB b o h0 he; have := hown b hv; omega, fun b o h0 he hv => by have := hgT b o h0 he; have := hown b hv; omega⟩
  have hfl : ∀ x ∈ Gs ++ [g], FlatB (w6.setCell ⟨tb, 0, none⟩ v') (tb + 1) (w6.setCell ⟨tb, 0, none⟩ v').heap.size x := by
    intro x hx
    have hx5 : FlatB w5 (tb + 1) w5.heap.size x ∧ x.apart v := by
      rcases List.mem_append.1 hx with hx | hx
      · exact ⟨h5.fl x hx, h.ap x hx⟩
      · obtain rfl := List.mem_singleton.1 hx
        exact ⟨hg.mono (by omega) (Nat.le_refl _), hga⟩
    have h6 := (hx5.1.frv hx5.2 f56).fr fS (fun y hy => by simp at hy; omega)
    exact h6.mono (Nat.le_refl _) (Nat.le_trans hsz fS.size)
  refine ⟨?_, h.lo, h.cmt, ?_, ?_, by simp [h.len], hfl, ?_, ?_, ?_⟩
  · refine ((h5.fr.trans f56 (fun y hy => by have := hnot y hy; exact .inr (by have := h.fr.size; omega))).trans fS (fun y hy => by simp at hy; exact .inr (by omega)))
  · exact (h5.head.fr f56 (fun hy => by have := hnot tb hy; omega)).setCell 0 v'
  · have e := flatC_snoc Gs g
    rw [h.len] at e
    rw [e]
    exact own_frS own fS (fun y hy => by have := hv' y hy; simp; omega)
  · intro x hx
    rcases hor with ho | ho
    · have ha : x.apart v := by
        rcases List.mem_append.1 hx with hx | hx
        · exact h.ap x hx
        · obtain rfl := List.mem_singleton.1 hx
          exact hga
      unfold FlatD.apart
      rw [ho]
      exact ha
    · unfold FlatD.apart
      rw [ho]
      have hx5 : FlatB w5 (tb + 1) w5.heap.size x := by
        rcases List.mem_append.1 hx with hx | hx
        · exact h5.fl x hx
        · obtain rfl := List.mem_singleton.1 hx
          exact hg.mono (by omega) (Nat.le_refl _)
      refine ⟨fun b o h0 he hb => ?_, fun b o h0 he hb => ?_⟩
      · obtain ⟨b', o', he', _, _, h2, _⟩ := hx5.evs.at_ h0
        rw [he] at he'; cases he'
        simp at hb; omega
      · obtain ⟨b', o', he', _, _, h2, _⟩ := hx5.ties.at_ h0
        rw [he] at he'; cases he'
        simp at hb; omega
  · intro i hi
    by_cases hij : i = j
    · subst hij
      have : (Gs ++ [g]).getD i default = g := by rw [← h.len]; simp [List.getD_eq_getElem?_getD]
      rw [this]
      exact hs
    · have : (Gs ++ [g]).getD i default = Gs.getD i default := by
        have := h.len
        simp only [List.getD_eq_getElem?_getD]
        rw [List.getElem?_append_left (by omega)]
      rw [this]
      exact h.same i (by omega)
  · exact (h5.map.fr f56 (fun hy => by have := hnot cm hy; omega)).fr fS (by simp; omega)
/-- The map grows. -/
theorem NewJ.call {w wr w5 : World} {tb cm : Nat} {v : Value} {Fs Gs : List FlatD} {j nC nC' : Nat} {C C' : Int × Int → Option CallD} (h : NewJ w wr tb cm v Fs Gs j nC C) (f : Fr [cm] wr w5) (hm : MapA pairK CallD.val w5 cm nC' C') : NewJ w w5 tb cm v Fs Gs j nC' C' := by
  have hcmt := h.cmt
  refine ⟨h.fr.trans f (fun y hy => by simp at hy; have := h.lo; exact .inr (by omega)), h.lo, h.cmt, h.head.fr f (by simp; omega), own_frS h.own f (fun y hy => by have := h.own.lt y hy; simp; omega), h.len, fun g hg => ((h.fl g hg).fr f (fun y hy => by simp at hy; omega)).mono (Nat.le_refl _) f.size, h.ap, h.same, hm⟩
/-- The tree ahead of its first instance. -/
theorem NewJ.tree {w wr : World} {tb cm : Nat} {v : Value} {Fs Gs : List FlatD} {j nC : Nat} {C : Int × Int → Option CallD} (h : NewJ w wr tb cm v Fs Gs j nC C) (hC : nC ≤ 1000) :
    ∃ a c, v = .slice a j c ∧ TreeAt wr tb wr.heap.size ⟨a, c, Gs, cm, C, .slice none 0 0, [], 0⟩ := by
  obtain ⟨a, c, h1, h2⟩ := rowsB_of_own (fun i => flatcells_len _) h.own
  refine ⟨a, c, h1, ⟨?_, ⟨?_, h.fl⟩, h.map.mono hC, h.cmt, h.head.lt, World.ownsRow_nil _ _ _ _, by simp, by simp, by simp, by simp, by simp, by simp, by simp⟩⟩
  · have := h.head
    rw [h1] at this
    show Row wr tb [.slice a Gs.length c, _, _, _] 120
    rw [h.len]
    exact this
  · show RowsB wr (tb + 1) wr.heap.size a Gs.length 2 _
    rw [h.len]
    exact h2
/-- A tree as New tells it. -/
structure NewT (p : ProgD) (T : TreeD) : Prop where
  len : T.Fs.length = p.Fs.length
  same : ∀ i, i < p.Fs.length → SameF (p.Fs.getD i default) (T.Fs.getD i default)
  C : T.C = callsM p.Cs p.Cs.length
  L : ∃ x, T.L = [x] ∧ x.plain = (0, 0, (T.Fs.getD 0 default).E.map startM, -1, -1)
  next : T.next = 1
def NewP (p : ProgD) (w : World) (e : Ending) (w' : World) : Prop :=
  (mayB p.Fs p.Cs = false ∧ e = .returned (.tuple #[.pointer none, .int .i64 1]) ∧ Fr [] w w') ∨
  (mayB p.Fs p.Cs = true ∧ ∃ tb hi T, e = .returned (.tuple #[.pointer (some ⟨tb, 0, none⟩), .int .i64 0]) ∧ NewT p T ∧ TreeAt w' tb hi T ∧ hi ≤ w'.heap.size ∧ w.heap.size ≤ tb ∧ Fr [] w w')
end Go.Proofs.Ytclkahggfdnpgaa

/- A graph, marks and bytes that came in, opened to plain data. -/
import Derived.Test.YtclkahggfdnpgaaMk1
import Derived.ProofKit
import Derived.Deep.Slices
import Derived.Deep.Fields
import Derived.ChangeSame
import Derived.Lib.SmallJoins
set_option linter.unusedVariables false
set_option linter.unusedSimpArgs false
namespace Go.Proofs.Ytclkahggfdnpgaa
open Go.ChangeShapes Go.WideShapes Go.Deep Go.RowKit
theorem addr_plain {w : World} {a : Addr} {v : Value} (h : w.cell? a = some v) : a = ⟨a.block, a.off, none⟩ := by
  unfold World.cell? at h
  split at h
  · split at h
    · cases h
    · rename_i hs
      cases a with
      | mk b o s => cases s <;> simp_all
  · cases h
section
variable {H : Type} {enc : TypeId × Value → H} {P : Program} {w : World} {spare : Nat → Bool} {held : Bool}
/-- Any slice, its elements' cells and readings. -/
theorem open_rows {t e k len cap : Nat} {a : Option Addr} {d : DataW H} {p : List MemPlace} (ht : P.underlying t = some (.slice e)) (hk : P.cellsOf e = k) (hk0 : 0 < k) (h : DataW.Trod enc P w 0 spare held t (.slice a len cap) d p) :
    len ≤ maxLen ∧ ∃ C : Nat → List Value, RowsAt w a len k C ∧ ∀ i, i < len → (C i).length = k ∧ ∃ n x, DataW.trod enc P w 0 spare held n e (C i) = some x := by
  obtain ⟨fuel, hf⟩ := h
  rcases open_slice ht hf with ⟨hcs, _⟩ | ⟨ad, l, c, m, n, D, Pl, hcs, _, hl, hm, hmm, _, hi⟩
  · simp [Value.cells] at hcs
    obtain ⟨rfl, rfl, rfl⟩ := hcs
    exact ⟨by unfold maxLen; omega, fun _ => [], ⟨fun h => absurd h (by omega)⟩, fun i hi => absurd hi (by omega)⟩
  · simp [Value.cells] at hcs
    obtain ⟨rfl, rfl, rfl⟩ := hcs
    have hlm : len ≤ m := by rw [hmm]; split <;> omega
    obtain ⟨C, hC⟩ := choose_lt (n := len) (p := fun i cs' => w.cells? 0 (ad.add (i * P.cellsOf e)) (P.cellsOf e) = some cs' ∧ DataW.trod enc P w 0 spare held n e cs' = some (D i, Pl i)) (fun i h => hi i (by omega))
    have key : ∀ i, i < len → (C i).length = k ∧ ∀ j v, (C i)[j]? = some v → w.cell? (ad.add (i * k + j)) = some v := by
      intro i h
      obtain ⟨h1, h2⟩ := hC i h
      rw [hk] at h1
      obtain ⟨_, hcl, hat⟩ := World.cells?_some h1
      refine ⟨hcl, fun j v hv => ?_⟩
      have hj : j < k := by rw [← hcl]; exact (List.getElem?_eq_some_iff.1 hv).1
      rw [← add_add, hat j hj, hv]
    refine ⟨by omega, C, ⟨fun h0 => ?_⟩, fun i h => ⟨(key i h).1, n, _, (hC i h).2⟩⟩
    have k0 := key 0 h0
    have hc0 : ∃ v, w.cell? ad = some v := by
      have hv : (C 0)[0]? = some ((C 0)[0]'(by omega)) := List.getElem?_eq_getElem (by omega)
      have := k0.2 0 _ hv
      exact ⟨_, by simpa [Addr.add] using this⟩
    obtain ⟨v, hv⟩ := hc0
    have hpl := addr_plain hv
    refine ⟨ad.block, ad.off, by rw [← hpl], block_lt_of_cell hv, fun i h j v hj => ?_⟩
    have := (key i h).2 j v hj
    rw [hpl, Addr_add, ← Nat.add_assoc] at this
    exact this
/-- A slice of structs: a list of them. -/
theorem open_list {α : Type} [Inhabited α] {t e k len cap : Nat} {a : Option Addr} {d : DataW H} {p : List MemPlace} (cells : α → List Value) (ht : P.underlying t = some (.slice e)) (hk : P.cellsOf e = k) (hk0 : 0 < k)
    (hel : ∀ (cs : List Value) n x, cs.length = k → DataW.trod enc P w 0 spare held n e cs = some x → ∃ y : α, cs = cells y) (h : DataW.Trod enc P w 0 spare held t (.slice a len cap) d p) :
    ∃ L : List α, L.length = len ∧ RowsAt w a len k (fun i => cells (L.getD i default)) := by
  obtain ⟨_, C, hC, hd⟩ := open_rows ht hk hk0 h
  have hL : ∀ i, i < len → ∃ x : α, C i = cells x := fun i hi => by
    obtain ⟨hl, n, x, hx⟩ := hd i hi
    exact hel _ n x hl hx
  obtain ⟨L, hL⟩ := choose_lt hL
  refine ⟨(List.range len).map L, by simp, ⟨fun h0 => ?_⟩⟩
  obtain ⟨b, o, rfl, hb, hh⟩ := hC.at_ h0
  refine ⟨b, o, rfl, hb, fun i hi j v hj => hh i hi j v ?_⟩
  have e1 : ((List.range len).map L).getD i default = L i := by
    rw [List.getD_eq_getElem?_getD, List.getElem?_map, List.getElem?_range hi]
    rfl
  have hj' : (cells (((List.range len).map L).getD i default))[j]? = some v := hj
  rw [e1, ← hL i hi] at hj'
  exact hj'
/-- A struct of one-cell fields: each field's cell and its reading. -/
theorem trod_fields {t fuel : Nat} {fs : Array Field} {cs : List Value} {x : DataW H × List MemPlace} (ht : P.underlying t = some (.struct fs)) (hone : oneCellFields P fs = true) (hC : P.cellsOf t = fs.size)
    (h : DataW.trod enc P w 0 spare held fuel t cs = some x) : cs.length = fs.size ∧ ∀ (j : Nat) (f : Field), fs[j]? = some f → ∃ v n y, cs[j]? = some v ∧ DataW.trod enc P w 0 spare held n f.type [v] = some y := by
  obtain ⟨xs, n', _, _, hcl, hxl, hf⟩ := DataW.trod_struct ht h
  rw [hC] at hcl
  refine ⟨hcl, fun j f hj => ?_⟩
  obtain ⟨ho, hk⟩ := hone_of hone j f hj
  have hjl : j < fs.size := (Array.getElem?_eq_some_iff.1 hj).1
  have h1 := hf j f hj
  rw [ho, hk] at h1
  have hone' : (cs.drop j).take 1 = [cs[j]'(by omega)] := by
    rw [List.drop_eq_getElem_cons (by omega)]
    rfl
  rw [hone'] at h1
  have hys : xs[j]? = some (xs[j]'(by omega)) := List.getElem?_eq_getElem (by omega)
  exact ⟨_, n', _, List.getElem?_eq_getElem (by omega), h1.trans hys⟩
theorem field_int {t n : Nat} {v : Value} {y : DataW H × List MemPlace} {k : IntKind} (ht : P.underlying t = some (.int k)) (h : DataW.trod enc P w 0 spare held n t [v] = some y) : ∃ m, v = .int k m ∧ (Lit.int k m).wf = true := by
  obtain ⟨m, hm, _, hw⟩ := DataW.trod_int ht h
  exact ⟨m, by simpa using hm, hw⟩
theorem field_bool {t n : Nat} {v : Value} {y : DataW H × List MemPlace} (ht : P.underlying t = some .bool) (h : DataW.trod enc P w 0 spare held n t [v] = some y) : ∃ m, v = .bool m := by
  obtain ⟨m, hm, _⟩ := DataW.trod_bool ht h
  exact ⟨m, by simpa using hm⟩
theorem field_string {t n : Nat} {v : Value} {y : DataW H × List MemPlace} (ht : P.underlying t = some .string) (h : DataW.trod enc P w 0 spare held n t [v] = some y) : ∃ m : ByteArray, v = .string m ∧ m.size ≤ maxLen := by
  obtain ⟨m, hm, _, hw⟩ := DataW.trod_string ht h
  exact ⟨m, by simpa using hm, hw⟩
theorem field_slice {t e n : Nat} {v : Value} {y : DataW H × List MemPlace} (ht : P.underlying t = some (.slice e)) (h : DataW.trod enc P w 0 spare held n t [v] = some y) : ∃ a len cap, v = .slice a len cap := by
  rcases open_slice ht h with ⟨hcs, _⟩ | ⟨ad, l, c, _, _, _, _, hcs, _⟩
  · exact ⟨none, 0, 0, by simpa using hcs⟩
  · exact ⟨some ad, l, c, by simpa using hcs⟩
end
theorem wf_i64 {m : Int} (h : (Lit.int .i64 m).wf = true) : -9223372036854775808 ≤ m ∧ m ≤ 9223372036854775807 := by
  simp only [Lit.wf, IntKind.min, IntKind.max, IntKind.bits, IntKind.signed] at h
  simpa using h
theorem wf_u8 {m : Int} (h : (Lit.int .u8 m).wf = true) : 0 ≤ m ∧ m ≤ 255 := by
  simp only [Lit.wf, IntKind.min, IntKind.max, IntKind.bits, IntKind.signed] at h
  simpa using h
theorem list3 {l : List Value} {a b c : Value} (h : l.length = 3) (h0 : l[0]? = some a) (h1 : l[1]? = some b) (h2 : l[2]? = some c) : l = [a, b, c] := by
  match l, h with
  | [_, _, _], _ => simp_all
theorem list4 {l : List Value} {a b c d : Value} (h : l.length = 4) (h0 : l[0]? = some a) (h1 : l[1]? = some b) (h2 : l[2]? = some c) (h3 : l[3]? = some d) : l = [a, b, c, d] := by
  match l, h with
  | [_, _, _, _], _ => simp_all
theorem list6 {l : List Value} {a b c d e f : Value} (h : l.length = 6) (h0 : l[0]? = some a) (h1 : l[1]? = some b) (h2 : l[2]? = some c) (h3 : l[3]? = some d) (h4 : l[4]? = some e) (h5 : l[5]? = some f) : l = [a, b, c, d, e, f] := by
  match l, h with
  | [_, _, _, _, _, _], _ => simp_all
section
variable {H : Type} {enc : TypeId × Value → H} {w : World} {spare : Nat → Bool} {held : Bool}
theorem evs_open {len cap : Nat} {a : Option Addr} {d : DataW H} {p : List MemPlace} (h : DataW.Trod enc Try.prog w 0 spare held 22 (.slice a len cap) d p) : ∃ L, EvsAt w a len L := by
  obtain ⟨L, hl, hr⟩ := open_list (k := 6) EvD.cells Try.underlying22 (by kernel_rfl) (by decide) (fun cs n x hl ht => by
    obtain ⟨_, hf⟩ := trod_fields Try.underlying104 (by kernel_rfl) (by kernel_rfl) ht
    obtain ⟨v0, _, _, e0, h0⟩ := hf 0 _ rfl
    obtain ⟨v1, _, _, e1, h1⟩ := hf 1 _ rfl
    obtain ⟨v2, _, _, e2, h2⟩ := hf 2 _ rfl
    obtain ⟨v3, _, _, e3, h3⟩ := hf 3 _ rfl
    obtain ⟨v4, _, _, e4, h4⟩ := hf 4 _ rfl
    obtain ⟨v5, _, _, e5, h5⟩ := hf 5 _ rfl
    obtain ⟨m0, rfl, _⟩ := field_string Try.underlying9 h0
    obtain ⟨m1, rfl, _⟩ := field_string Try.underlying9 h1
    obtain ⟨m2, rfl, _⟩ := field_string Try.underlying9 h2
    obtain ⟨m3, rfl⟩ := field_bool Try.underlying4 h3
    obtain ⟨m4, rfl⟩ := field_bool Try.underlying4 h4
    obtain ⟨m5, rfl, _⟩ := field_int Try.underlying3 h5
    exact ⟨⟨m0, m1, m2, m3, m4, m5⟩, list6 hl e0 e1 e2 e3 e4 e5⟩) h
  exact ⟨L, hl, hr⟩
theorem ties_open {len cap : Nat} {a : Option Addr} {d : DataW H} {p : List MemPlace} (h : DataW.Trod enc Try.prog w 0 spare held 23 (.slice a len cap) d p) : ∃ L, TiesAt w a len L := by
  obtain ⟨L, hl, hr⟩ := open_list (k := 4) TieD.cells Try.underlying23 (by kernel_rfl) (by decide) (fun cs n x hl ht => by
    obtain ⟨_, hf⟩ := trod_fields Try.underlying57 (by kernel_rfl) (by kernel_rfl) ht
    obtain ⟨v0, _, _, e0, h0⟩ := hf 0 _ rfl
    obtain ⟨v1, _, _, e1, h1⟩ := hf 1 _ rfl
    obtain ⟨v2, _, _, e2, h2⟩ := hf 2 _ rfl
    obtain ⟨v3, _, _, e3, h3⟩ := hf 3 _ rfl
    obtain ⟨m0, rfl, _⟩ := field_int Try.underlying3 h0
    obtain ⟨m1, rfl, _⟩ := field_int Try.underlying3 h1
    obtain ⟨m2, rfl, _⟩ := field_int Try.underlying3 h2
    obtain ⟨m3, rfl, _⟩ := field_int Try.underlying3 h3
    exact ⟨⟨m0, m1, m2, m3⟩, list4 hl e0 e1 e2 e3⟩) h
  exact ⟨L, hl, hr⟩
theorem marks_open {len cap : Nat} {a : Option Addr} {d : DataW H} {p : List MemPlace} (h : DataW.Trod enc Try.prog w 0 spare held 26 (.slice a len cap) d p) : ∃ L, MarksAt w a len L := by
  obtain ⟨L, hl, hr⟩ := open_list (k := 3) MarkD.cells Try.underlying26 (by kernel_rfl) (by decide) (fun cs n x hl ht => by
    obtain ⟨_, hf⟩ := trod_fields Try.underlying52 (by kernel_rfl) (by kernel_rfl) ht
    obtain ⟨v0, _, _, e0, h0⟩ := hf 0 _ rfl
    obtain ⟨v1, _, _, e1, h1⟩ := hf 1 _ rfl
    obtain ⟨v2, _, _, e2, h2⟩ := hf 2 _ rfl
    obtain ⟨m0, rfl⟩ := field_bool Try.underlying4 h0
    obtain ⟨m1, rfl, _⟩ := field_int Try.underlying3 h1
    obtain ⟨m2, rfl, _⟩ := field_int Try.underlying3 h2
    exact ⟨⟨m0, m1, m2⟩, list3 hl e0 e1 e2⟩) h
  exact ⟨L, hl, hr⟩
end
/-- Bytes that came in. -/
structure StepsAt (w : World) (a : Option Addr) (n : Nat) (L : List Nat) : Prop where
  few : n ≤ 9223372036854775807
  len : L.length = n
  rows : RowsAt w a n 1 (fun i => [.int .u8 ((L.getD i default : Nat) : Int)])
  small : ∀ i, L.getD i default ≤ 255
theorem StepsAt.fr {w w' : World} {a : Option Addr} {n : Nat} {M : List Nat} (h : StepsAt w a n M) (f : Fr [] w w') : StepsAt w' a n M := ⟨h.few, h.len, h.rows.fr f, h.small⟩
section
variable {H : Type} {enc : TypeId × Value → H} {w : World} {spare : Nat → Bool} {held : Bool}
theorem steps_open {len cap : Nat} {a : Option Addr} {d : DataW H} {p : List MemPlace} (h : DataW.Trod enc Try.prog w 0 spare held 50 (.slice a len cap) d p) : ∃ L, StepsAt w a len L := by
  have hm := (open_rows (k := 1) Try.underlying50 (by kernel_rfl) (by decide) h).1
  obtain ⟨L, hl, hr⟩ := open_list (α := Fin 256) (k := 1) (fun x => [.int .u8 ((x.val : Nat) : Int)]) Try.underlying50 (by kernel_rfl) (by decide) (fun cs n x hl ht => by
    match cs, hl with
    | [v], _ =>
      obtain ⟨m, rfl, hw⟩ := field_int Try.underlying5 ht
      have := wf_u8 hw
      refine ⟨⟨m.toNat, by omega⟩, ?_⟩
      show _ = [Value.int .u8 ((m.toNat : Nat) : Int)]
      rw [Int.toNat_of_nonneg this.1]) h
  have hg : ∀ i, (L.map Fin.val).getD i default = (L.getD i default).val := by
    intro i
    rw [List.getD_eq_getElem?_getD, List.getD_eq_getElem?_getD, List.getElem?_map]
    cases L[i]? <;> rfl
  refine ⟨L.map Fin.val, by unfold maxLen at hm; exact hm, by simpa using hl, ?_, fun i => ?_⟩
  · have e : (fun i => [Value.int .u8 (((L.map Fin.val).getD i default : Nat) : Int)]) = fun i => [.int .u8 (((L.getD i default).val : Nat) : Int)] := by
      funext i
      rw [hg i]
    rw [e]
    exact hr
  · rw [hg i]
    have := (L.getD i default).isLt
    omega
/-- A graph that came in. -/
structure FlatIn (w : World) (f : FlatD) : Prop where
  evs : EvsAt w f.ea f.en f.E
  ties : TiesAt w f.ta f.tn f.T
theorem FlatIn.fr {w w' : World} {f : FlatD} (h : FlatIn w f) (g : Fr [] w w') : FlatIn w' f := ⟨h.evs.fr g, h.ties.fr g⟩
theorem FlatIn.at {w : World} {f : FlatD} (h : FlatIn w f) (h1 : f.en ≤ 40) (h2 : f.tn ≤ 300) : FlatAt w f := ⟨h.evs, h.ties, by omega, by omega⟩
set_option maxRecDepth 100000 in
theorem flat_open {r : Reach} {b0 : Nat} {v : Value} {d : DataW H} {p : List MemPlace} (hv : Value.okWide Try.prog w r b0 25 v) (h : DataW.Trod enc Try.prog w 0 spare held 25 v d p) : ∃ X : FlatD, v = X.val ∧ FlatIn w X := by
  obtain ⟨v0, v1, y0, y1, n, rfl, _, _, h0, h1⟩ := Go.Joins.open_agg2 (P := Try.prog) (t := 25) Try.underlying25 (by kernel_rfl) (by kernel_rfl) hv h
  obtain ⟨ea, en, ec, rfl⟩ := field_slice Try.underlying22 h0
  obtain ⟨ta, tn, tc, rfl⟩ := field_slice Try.underlying23 h1
  obtain ⟨E, hE⟩ := evs_open (a := ea) (len := en) (cap := ec) ⟨n, h0⟩
  obtain ⟨T, hT⟩ := ties_open (a := ta) (len := tn) (cap := tc) ⟨n, h1⟩
  exact ⟨⟨ea, en, ec, ta, tn, tc, E, T⟩, rfl, hE, hT⟩
end
end Go.Proofs.Ytclkahggfdnpgaa
